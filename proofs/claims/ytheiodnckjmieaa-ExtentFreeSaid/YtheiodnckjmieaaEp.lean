/- The law Plays. -/
import Derived.Test.YtheiodnckjmieaaEi
import Derived.Test.YtheiodnckjmieaaOpen
namespace Go.Proofs.Ytheiodnckjmieaa
set_option linter.unusedVariables false
open Go.RowKit

/-- Both new maps. -/
theorem new_pair {w1 w2 w3 : World} {f : Int} {F : List Bool} {B : Nat} (hB : B = w1.heap.size) (h1 : Ef w2 (fun q => q = B) B f F) (h2 : ∃ a c, Rm w3 (fun q => q ≤ w2.heap.size) w2.heap.size f a c F) (k : Chg (fun _ => False) w2 w3) : Pr w3 (fun q => q = B ∨ q = w2.heap.size) B w2.heap.size f F := by
  have sb := h1.sb
  obtain ⟨a, c, fs, hE, hS⟩ := h1
  obtain ⟨a2, c2, hR⟩ := h2
  have lr := hR.lt _ hR.sb
  refine ⟨⟨a, c, fs, (hE.widen k).narrow (fun q hq => ?_) (.inl rfl), hS⟩, ⟨a2, c2, hR.narrow (fun q hq => ?_) (.inr rfl)⟩, by have := sb.2; omega⟩
  · rcases hq with hq | hq
    · exact .inl hq
    · exact .inr ⟨by omega, by omega⟩
  · rcases hq with hq | hq
    · show q ≤ _; have := sb.2; omega
    · show q ≤ _; omega

set_option maxHeartbeats 4000000 in
set_option maxRecDepth 100000 in
theorem extentPlays_any (f s : Int) (v : Value) (l : List (Int × Int × Int)) (w : World) (hf : (Lit.int .i64 f).wf = true) (hs : (Lit.int .i64 s).wf = true) (hL : IsL3 .i64 .i64 .i64 w v l) :
    Calls Try.prog 3 #[.int .i64 f, .int .i64 s, v] w fun e w' => e = .returned (.bool true) ∧ Below w.heap.size w w' := by
  obtain ⟨hwf, a, cap, rfl, hlen, hc⟩ := hL
  have HC := Lib.hid hc
  have HWF := Lib.hid hwf
  clear hc hwf
  go_enter Try.func3, Try.ntmps3
  go_wp2_with fail
  refine (awake_any w).mono ?_; rintro e w1 ⟨rfl, g1⟩
  go_wp2_with fail
  refine (great_any w1 s a l.length cap).mono ?_; rintro e w1' ⟨rfl, rfl⟩
  cases hg : greatB s l.length with
  | true =>
    go_wp2_with fail
    refine (awake_any w1).mono ?_; rintro e w2 ⟨rfl, g2⟩
    go_wp2
    go_ret
    exact ⟨rfl, Chg.below (g1.trans g2 (fun _ _ h => h))⟩
  | false =>
    go_wp2_with fail
    cases hb : badN f s with
    | true =>
      refine (new_bad w1 f s hb).mono ?_; rintro e w2 ⟨rfl, rfl⟩
      go_wp2_with fail
      refine (rnew_bad w1 f s hb).mono ?_; rintro e w2 ⟨rfl, rfl⟩
      go_wp2
      go_ret
      exact ⟨rfl, Chg.below g1⟩
    | false =>
      have hbb : 0 ≤ f ∧ f ≤ 1048576 ∧ 0 ≤ s ∧ s ≤ 1048576 := by simp [badN] at hb; omega
      obtain ⟨n, rfl⟩ : ∃ n : Nat, s = n := ⟨s.toNat, by omega⟩
      refine (new_ef w1 f n hb).mono ?_; rintro e w2 ⟨rfl, hE, g2⟩
      obtain ⟨B, hB⟩ : ∃ B, B = w1.heap.size := ⟨_, rfl⟩
      rw [← hB] at hE ⊢
      have HB := Lib.hid hB
      clear hB
      go_wp2_with fail
      refine (rnew_ok w2 f n hb).mono ?_; rintro e w3 ⟨rfl, hR, g3⟩
      have hP := new_pair HB.out hE hR g3
      obtain ⟨B2, hB2⟩ : ∃ B2, B2 = w2.heap.size := ⟨_, rfl⟩
      rw [← hB2] at hP ⊢
      have zB : w.heap.size ≤ B ∧ w.heap.size ≤ B2 := by have := g1.size; have := g2.size; have := HB.out; omega
      have HP := Lib.hid hP
      have G3 := Lib.hid ((g1.trans g2 (fun _ _ h => h)).trans g3 (fun _ _ h => h))
      clear hE hR hP hB2 g1 g2 g3 hg hb
      go_wp2_with fail
      go_loopw [49] (fun i wr => ∃ k : Nat, k ≤ l.length ∧ i = .int .i64 (↑k : Int) ∧ Hid (∃ F, Pr wr (fun q => q = B ∨ q = B2) B B2 f F) ∧ Hid (Chg (fun _ => False) w wr)) (fun i _ => l.length - (intOf i).toNat)
      case atStart => exact ⟨0, by omega, rfl, ⟨_, HP.out⟩, G3.out⟩
      case round =>
        obtain ⟨k, hk, rfl, HQ, HG⟩ := hrel
        by_cases hlt : k < l.length
        rotate_left
        · obtain rfl : k = l.length := by omega
          go_wp2
          go_ret
          exact ⟨rfl, Chg.below HG.out⟩
        obtain ⟨lb, lo, rfl, hlb, hc⟩ := HC.out (by omega)
        obtain ⟨⟨kd, x, y⟩, hx⟩ : ∃ x, l[k]? = some x := ⟨_, List.getElem?_eq_getElem hlt⟩
        obtain ⟨kc0, kc1, kc2⟩ := hc k _ hx
        have e0 : wr.cell? ⟨lb, lo + k * 3, none⟩ = some (.int .i64 kd) := by rw [HG.out.cell hlb id]; exact kc0
        have e1 : wr.cell? ⟨lb, lo + k * 3 + 1, none⟩ = some (.int .i64 x) := by rw [HG.out.cell hlb id]; exact kc1
        have e2 : wr.cell? ⟨lb, lo + k * 3 + 2, none⟩ = some (.int .i64 y) := by rw [HG.out.cell hlb id]; exact kc2
        have hw := HWF.out _ (List.mem_of_getElem? hx)
        have HX := Lib.hid (And.intro (wfI64 hw.2.1) (wfI64 hw.2.2))
        obtain ⟨F, hF⟩ := HQ.out
        have HF := Lib.hid hF
        clear kc0 kc1 kc2 hc hx hw hF
        go_wp2_with fail
        refine name_calls ?_; intro W hW
        have gW : Chg (fun _ => False) wr W := by subst hW; exact (by repeat (first | with_reducible exact Chg.refl _ _ | with_reducible assumption | with_reducible refine Chg.drewN ?_ _ | with_reducible refine Chg.drew ?_ | with_reducible refine Chg.alloc ?_ _ | with_reducible refine Chg.setCell ?_ (by first | (left; rfl) | (right; exact Nat.le_refl _) | (right; simp; done) | (right; omega) | (right; simp at *; omega) | (simp at *; omega)) _ | with_reducible refine Chg.trans ?_ (by with_reducible assumption) (by intro i hi hT; first | exact hT | exact False.elim hT | omega | (simp at *; omega))))
        clear hW
        refine (do_any W _ B B2 f F kd x y (HF.out.chg gW (fun _ _ h => h.elim) id id) HX.out.1 HX.out.2).mono ?_; rintro e w4 ⟨rfl, hP, g4⟩
        have HP4 := Lib.hid hP
        have G4 : Hid (Chg (fun _ => False) w w4) := (HG.out.trans gW (fun _ _ h => h)).trans g4 (fun q hq h => by omega)
        clear hP g4 gW
        obtain ⟨F', hF'⟩ : ∃ F', F' = doF f F kd x y := ⟨_, rfl⟩
        rw [← hF'] at HP4
        clear hF'
        go_wp2_with fail
        refine (free_ef w4 _ B f F' HP4.out.1).mono ?_; rintro e w5 ⟨⟨gs, a5, c5, rfl, ho, hS⟩, g5⟩
        have HP5 := Lib.hid (HP4.out.chg g5 (fun _ _ h => h.elim) id id)
        have HS := Lib.hid hS
        have HO := Lib.hid ho
        have G5 := Lib.hid (G4.out.trans g5 (fun _ _ h => h))
        clear ho hS g5
        obtain ⟨a6, c6, hR6⟩ := HP5.out.2.1
        have HR6 := Lib.hid hR6
        clear hR6
        go_wp2_with fail
        refine (rfree_any w5 _ B2 f a6 c6 F' HR6.out).mono ?_; rintro e w6 ⟨⟨gs', a7, c7, rfl, ho, hS⟩, g6⟩
        obtain rfl := same_uniq HS.out hS
        have I2 : IsE w6 a7 c7 gs := RdS.row ho (flat_one _)
        have I1 : IsE w6 a5 c5 gs := IsE.keep (RdS.row HO.out (flat_one _)) g6 (fun _ _ h => h)
        have HP6 := Lib.hid (HP5.out.chg g6 (fun _ _ h => h.elim) id id)
        have G6 := Lib.hid (G5.out.trans g6 (fun _ _ h => h))
        have hgl : gs.length ≤ 1048576 := by
          have := norm_len HS.out.norm (by have := HP5.out.1.bd; omega)
          have := HP5.out.1.bd
          omega
        have HI := Lib.hid (And.intro I1 I2)
        clear ho hS g6 I1 I2
        go_wp2_with fail
        refine (same_any w6 a5 a7 c5 c7 gs HI.out.1 HI.out.2 hgl).mono ?_; rintro e w7 ⟨rfl, g7⟩
        have HP7 := Lib.hid (HP6.out.chg g7 (fun _ _ h => h.elim) id id)
        have G7 := Lib.hid (G6.out.trans g7 (fun _ _ h => h))
        clear g7
        go_wp2_with fail
        refine (left_ef w7 _ B f F' HP7.out.1).mono ?_; rintro e w8 ⟨rfl, g8⟩
        have HP8 := Lib.hid (HP7.out.chg g8 (fun _ _ h => h.elim) id id)
        have G8 := Lib.hid (G7.out.trans g8 (fun _ _ h => h))
        clear g8
        obtain ⟨a8, c8, hR8⟩ := HP8.out.2.1
        have HR8 := Lib.hid hR8
        clear hR8
        go_wp2_with fail
        refine (rleft_any w8 _ B2 f a8 c8 F' HR8.out).mono ?_; rintro e w9 ⟨rfl, rfl⟩
        go_wp2
        go_roundw
        case rel => exact ⟨k + 1, by omega, by go_num, ⟨_, HP8.out⟩, G8.out⟩
        case measure => simp [intOf]; omega
end Go.Proofs.Ytheiodnckjmieaa
