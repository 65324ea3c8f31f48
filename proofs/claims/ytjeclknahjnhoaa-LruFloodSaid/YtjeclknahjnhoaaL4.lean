/- The law Flood. (Printed by genlaws.py.) -/
import Derived.Test.YtjeclknahjnhoaaLi
namespace Go.Proofs.Ytjeclknahjnhoaa
set_option linter.unusedVariables false
open Go.RowKit

theorem P4.rcell {w0 w : World} {Z : Nat → Prop} {b r N : Nat} {most : Int} {T K T' K' : List Pt} (h : P4 w0 Z b r most N T K T' K' w) : ∃ a c, w.cell? ⟨r, 2, none⟩ = some (.slice a K'.length c) ∧ IsP w a c K' := by
  obtain ⟨O, R, _, ⟨a1, c1, a2, c2, h1, _⟩, _⟩ := h
  exact ⟨a2, c2, h1.m2, h1.k⟩
set_option maxHeartbeats 4000000 in
set_option maxRecDepth 100000 in
theorem lruFlood_any (most : Int) (v : Value) (l : List (Int × Int × Int)) (v2 : Value) (l2 : List Int) (w : World) (hm : (Lit.int .i64 most).wf = true) (hL : IsL3 .i64 .i64 .i64 w v l) (hL2 : IsL1 .i64 w v2 l2) :
    Calls Try.prog 7 #[.int .i64 most, v, v2] w fun e w' => e = .returned (.bool true) ∧ Below w.heap.size w w' := by
  cases hbad : badRun most l.length with
  | true =>
    obtain ⟨hwf, a, cap, rfl, hlen, hc⟩ := hL
    have HBAD := Lib.hid hbad
    clear hwf hc hbad
    go_enter Try.func7, Try.ntmps7
    go_wp2_with fail
    refine (run_no w most a l.length cap HBAD.out hlen).mono ?_; rintro e w1 ⟨r, rfl, g1⟩
    have G1 := Lib.hid g1
    clear g1
    go_wp2_with fail
    refine (awake_any w1).mono ?_; rintro e w2 ⟨rfl, g2⟩
    have G2 := Lib.hid (G1.out.trans g2 fun _ _ h => h)
    clear g2
    go_wp2_with fail
    refine (awake_any w2).mono ?_; rintro e w3 ⟨rfl, g3⟩
    have G3 := Lib.hid (G2.out.trans g3 fun _ _ h => h)
    clear g3
    go_wp2
    go_ret
    exact ⟨rfl, Chg.below G3.out⟩
  | false =>
    have HBAD := Lib.hid hbad
    clear hbad
    obtain ⟨hwf2, a2, cap2, rfl, hlen2, hc2⟩ := hL2
    have HC2 := Lib.hid hc2
    have HWF2 := Lib.hid hwf2
    clear hc2 hwf2
    go_enter Try.func7, Try.ntmps7
    go_wp2_with fail
    refine (run_ok w most v l HBAD.out hL).mono ?_; rintro e w1 ⟨b, r, T, K, rfl, hP1⟩
    have HP1 := Lib.hid hP1
    clear hP1
    go_wp2_with fail
    refine (awake_any w1).mono ?_; rintro e w2 ⟨rfl, g2⟩
    have HP := Lib.hid (HP1.out.still g2)
    clear g2 HP1
    by_cases h40 : l2.length ≤ 60
    rotate_left
    · have q40 : decide ((60 : Int) < (l2.length : Int)) = true := by simp; omega
      have q41 : (60 : Int) < (l2.length : Int) := by omega
      go_wp2_with fail
      refine (awake_any w2).mono ?_; rintro e w3 ⟨rfl, g3⟩
      have G3 := Lib.hid (HP.out.g.trans g3 fun _ _ h => h)
      clear g3
      go_wp2
      go_ret
      exact ⟨rfl, Chg.below G3.out⟩
    have q40 : decide ((60 : Int) < (l2.length : Int)) = false := by simp; omega
    go_wp2_with fail
    go_loopw [39] (fun i wr => ∃ j : Nat, j ≤ l2.length ∧ i = .int .i64 (↑j : Int) ∧ Hid (∃ T', P4 w (fun _ => False) b r most (120 + j) T' K T K wr)) (fun i _ => l2.length - (intOf i).toNat)
    case atStart => exact ⟨0, by omega, rfl, _, HP.out⟩
    case round =>
      obtain ⟨j, hj, rfl, HQ⟩ := hrel
      by_cases hjt : j < l2.length
      · obtain ⟨lb, lo, rfl, hlb, hc⟩ := HC2.out (by omega)
        obtain ⟨x, hx⟩ : ∃ x, l2[j]? = some x := ⟨_, List.getElem?_eq_getElem hjt⟩
        have kc := hc j _ hx
        obtain ⟨T', hP⟩ := HQ.out
        have e0 : wr.cell? ⟨lb, lo + j, none⟩ = some (.int .i64 x) := by rw [hP.g.cell hlb id]; exact kc
        have hw := HWF2.out _ (List.mem_of_getElem? hx)
        have HP2 := Lib.hid hP
        clear kc hc hx hP
        go_wp2_with fail
        refine (add_p w wr _ b r most (120 + j) T' K T K x 5 HP2.out (by omega) hw).mono ?_; rintro e w7 ⟨rfl, hP, _⟩
        have HP7 := Lib.hid hP
        obtain ⟨C, hC⟩ : ∃ C, C = addC T' K x 5 := ⟨_, rfl⟩
        rw [← hC]
        clear hP hC
        go_wp2
        go_roundw
        case rel => exact ⟨j + 1, by omega, by go_num, _, HP7.out⟩
        case measure => simp [intOf]; omega
      · obtain rfl : j = l2.length := by omega
        obtain ⟨T', hP⟩ := HQ.out
        have HP3 := Lib.hid hP
        clear hP
        go_wp2_with fail
        refine (order_p w wr _ b r most _ T' K T K HP3.out (by omega)).mono ?_; rintro e w5 ⟨⟨a5, c5, rfl, ho, k5⟩, hP⟩
        have HP5 := Lib.hid hP
        obtain ⟨ks, hks⟩ : ∃ ks, ks = keysP (T' ++ K) := ⟨_, rfl⟩
        rw [← hks] at ho ⊢
        have HI5 : Hid (IsK w5 a5 c5 ks) := RdS.row ho (nums_one _)
        have HKS := Lib.hid hks
        obtain ⟨L, hL'⟩ : ∃ L, L = ks.length := ⟨_, rfl⟩
        rw [← hL']
        obtain ⟨n, hn⟩ : ∃ n, n = K.length := ⟨_, rfl⟩
        obtain ⟨p, hp⟩ : ∃ p, p = T'.length := ⟨_, rfl⟩
        have HLN : Hid (ks.length = L ∧ K.length = n ∧ T'.length = p) := ⟨hL'.symm, hn.symm, hp.symm⟩
        have hLp : L = p + n := by rw [hL', hks, keys_len, List.length_append, hn, hp]
        have hL180 : L ≤ 180 := by have := HP5.out.len.1; omega
        obtain ⟨g2, c2', r2, kp⟩ := HP5.out.rcell
        rw [← hn] at r2
        have HKP := Lib.hid kp
        have q0 : decide ((L : Int) < (n : Int)) = false := by simp; omega
        have q1 : decide (L < n) = false := by simp; omega
        have hpos : (p : Int) + n ≤ 180 := by omega
        have hLi : (L : Int) = (p : Int) + n := by omega
        have HLI := Lib.hid (And.intro hLp hLi)
        have hLi2 : (L : Int) ≤ 180 := by omega
        clear hP ho k5 hks hL' hn hp kp hLp hLi
        go_wp2_with fail
        go_loopw [63] (fun i wr => ∃ j : Nat, j ≤ n ∧ i = .int .i64 (↑j : Int) ∧ Hid (Chg (fun _ => False) w5 wr)) (fun i _ => n - (intOf i).toNat)
        case atStart => exact ⟨0, by omega, rfl, Chg.refl _ _⟩
        case round =>
          obtain ⟨j, hj, rfl, HG⟩ := hrel
          by_cases hjt : j < n
          · obtain ⟨⟨x, m⟩, hx⟩ : ∃ t, K[j]? = some t := ⟨_, List.getElem?_eq_getElem (by have := HLN.out; omega)⟩
            have hk : ks[p + j]? = some x := by
              rw [HKS.out, keysP, List.getElem?_map, List.getElem?_append_right (by have := HLN.out; omega), show p + j - T'.length = j by have := HLN.out; omega, hx]; rfl
            obtain ⟨g, o, hg, k0⟩ := (HI5.out.keep HG.out fun _ _ => id).at hk
            obtain rfl := hg
            obtain ⟨g3, o3, hg3, k1, k2⟩ := (HKP.out.keep HG.out fun _ _ => id).at hx
            obtain rfl := hg3
            simp only at k1 k2
            have hxw : (Lit.int .i64 x).wf = true := WalkArith.wf_i64 (HP5.out.inv.1.range (x, m) (by simp [List.mem_of_getElem? hx]))
            have hhk : hasK K x = true := hasK_iff.2 (List.mem_map.2 ⟨_, List.mem_of_getElem? hx, rfl⟩)
            have HP6 := Lib.hid (HP5.out.still HG.out)
            have HHK := Lib.hid hhk
            have lg : g < wr.heap.size := cell_lt k0
            clear hk hx hhk
            go_wp2_with fail
            refine name_region ?_; intro W hW
            have gW : Chg (fun _ => False) wr W := by subst hW; exact (by repeat (first | with_reducible exact Chg.refl _ _ | with_reducible assumption | with_reducible refine Chg.drewN ?_ _ | with_reducible refine Chg.drew ?_ | with_reducible refine Chg.alloc ?_ _ | with_reducible refine Chg.setCell ?_ (by first | (left; rfl) | (left; left; rfl) | (left; right; rfl) | (left; right; left; rfl) | (left; right; right; rfl) | (right; exact Nat.le_refl _) | (right; simp; done) | (right; omega) | (right; simp at *; omega) | (simp at *; omega)) _ | with_reducible refine Chg.trans ?_ (by with_reducible assumption) (by intro i hi hT; first | exact hT | exact False.elim hT | omega | (simp at *; omega))))
            have t0 : W.cell? ⟨wr.heap.size, 0, none⟩ = some (.int .i64 x) := by subst hW; go_simp
            have o0 : W.cell? ⟨g, o + (p + j), none⟩ = some (.int .i64 x) := by subst hW; go_simp
            clear hW
            have HP7 := Lib.hid (HP6.out.still gW)
            have HG7 := Lib.hid (HG.out.trans gW fun _ _ h => h)
            have HCK : Hid (∀ m, Calls Try.prog 21 #[.pointer (some ⟨b, 0, none⟩), .int .i64 x] (W.drewN m) fun e w' => e = .returned (.bool true) ∧ W.drewN m = w') := fun m => by
              have := kept_p w (W.drewN m) _ b r most _ T' K T K x (HP7.out.still (by repeat (first | with_reducible exact Chg.refl _ _ | with_reducible assumption | with_reducible refine Chg.drewN ?_ _ | with_reducible refine Chg.drew ?_ | with_reducible refine Chg.alloc ?_ _ | with_reducible refine Chg.setCell ?_ (by first | (left; rfl) | (left; left; rfl) | (left; right; rfl) | (left; right; left; rfl) | (left; right; right; rfl) | (right; exact Nat.le_refl _) | (right; simp; done) | (right; omega) | (right; simp at *; omega) | (simp at *; omega)) _ | with_reducible refine Chg.trans ?_ (by with_reducible assumption) (by intro i hi hT; first | exact hT | exact False.elim hT | omega | (simp at *; omega))))) hxw
              rw [HHK.out] at this
              exact this
            have s1 : IntKind.i64.wrap ((L : Int) - (n : Int)) = (p : Int) := by have := HLI.out.2; rw [show (L : Int) - n = p by omega]; exact IntWalk.i64_in _ (by omega)
            have s2 : IntKind.i64.wrap ((p : Int) + (j : Int)) = ((p + j : Nat) : Int) := by rw [show (p : Int) + j = ((p + j : Nat) : Int) by omega]; exact IntWalk.i64_in _ (by omega)
            have s3 : p + j < L := by have := HLI.out.1; omega
            have s4 : ((p + j : Nat) : Int) < (L : Int) := by omega
            have s5 : (p : Int) + (j : Int) < (L : Int) := by omega
            have s6 : ((p : Int) + (j : Int)).toNat = p + j := by omega
            have s7 : 0 ≤ (p : Int) + (j : Int) := by omega
            clear gW k0 k1 k2
            go_quiet ((first | (go_at_call 21; first | with_reducible exact quiet_add (HCK.out _) | with_reducible exact quiet_same (HCK.out _))))
            clear s1 s2 s3 s4 s5 s6 s7
            go_wp2
            go_roundw
            case rel => exact ⟨j + 1, by omega, by go_num, HG7.out.trans (T := fun _ => False) (by repeat (first | with_reducible exact Chg.refl _ _ | with_reducible assumption | with_reducible refine Chg.drewN ?_ _ | with_reducible refine Chg.drew ?_ | with_reducible refine Chg.alloc ?_ _ | with_reducible refine Chg.setCell ?_ (by first | (left; rfl) | (left; left; rfl) | (left; right; rfl) | (left; right; left; rfl) | (left; right; right; rfl) | (right; exact Nat.le_refl _) | (right; simp; done) | (right; omega) | (right; simp at *; omega) | (simp at *; omega)) _ | with_reducible refine Chg.trans ?_ (by with_reducible assumption) (by intro i hi hT; first | exact hT | exact False.elim hT | omega | (simp at *; omega)))) fun _ _ h => h⟩
            case measure => simp [intOf]; omega
          · obtain rfl : j = n := by omega
            have HP6 := Lib.hid (HP5.out.still HG.out)
            go_wp2_with fail
            refine (bytes_p w wr _ b r most _ T' K T K HP6.out (by omega)).mono ?_; rintro e w7 ⟨rfl, hP, _⟩
            have HP7 := Lib.hid hP
            obtain ⟨U, hU⟩ : ∃ U, U = sumP K := ⟨_, rfl⟩
            obtain ⟨V, hV⟩ : ∃ V, V = sumP T' := ⟨_, rfl⟩
            rw [← hU, ← hV]
            have HU := Lib.hid hU
            clear hP hU hV
            go_wp2_with fail
            refine (rbytes_p w w7 _ b r most _ T' K T K HP7.out (by omega)).mono ?_; rintro e w8 ⟨rfl, hP, _⟩
            have HP8 := Lib.hid hP
            obtain ⟨V2, hV⟩ : ∃ V, V = sumP T := ⟨_, rfl⟩
            rw [← HU.out, ← hV]
            clear hP hV
            go_wp2
            go_ret
            exact ⟨by simp, Chg.below HP8.out.g⟩
end Go.Proofs.Ytjeclknahjnhoaa
