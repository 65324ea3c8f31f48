/- The law Plays. (Printed by genlaws.py.) -/
import Derived.Test.YtjeclknahjnhoaaLi
namespace Go.Proofs.Ytjeclknahjnhoaa
set_option linter.unusedVariables false
open Go.RowKit

set_option maxHeartbeats 4000000 in
set_option maxRecDepth 100000 in
theorem lruPlays_any (most : Int) (v : Value) (l : List (Int × Int × Int)) (key : Int) (w : World) (hm : (Lit.int .i64 most).wf = true) (hL : IsL3 .i64 .i64 .i64 w v l) (hk : (Lit.int .i64 key).wf = true) :
    Calls Try.prog 3 #[.int .i64 most, v, .int .i64 key] w fun e w' => e = .returned (.bool true) ∧ Below w.heap.size w w' := by
  obtain ⟨hwf, a, cap, rfl, hlen, hc⟩ := hL
  have HC := Lib.hid hc
  have HWF := Lib.hid hwf
  clear hc hwf
  go_enter Try.func3, Try.ntmps3
  go_wp2_with fail
  refine (awake_any w).mono ?_; rintro e w1 ⟨rfl, g1⟩
  have G1 := Lib.hid g1
  clear g1
  by_cases h60 : l.length ≤ 60
  rotate_left
  · have q60 : decide ((60 : Int) < (l.length : Int)) = true := by simp; omega
    have q61 : (60 : Int) < (l.length : Int) := by omega
    go_wp2_with fail
    refine (awake_any w1).mono ?_; rintro e w2 ⟨rfl, g2⟩
    have G2 := Lib.hid (G1.out.trans g2 fun _ _ h => h)
    clear g2
    go_wp2
    go_ret
    exact ⟨rfl, Chg.below G2.out⟩
  have q60 : decide ((60 : Int) < (l.length : Int)) = false := by simp; omega
  go_wp2_with fail
  cases hb : badMost most with
  | true =>
    have HB := Lib.hid hb
    clear hb
    refine (new_bad w1 most HB.out).mono ?_; rintro e w2 ⟨rfl, rfl⟩
    go_wp2_with fail
    refine (may_any w1 most).mono ?_; rintro e w2 ⟨rfl, rfl⟩
    rw [HB.out]
    go_wp2
    go_ret
    exact ⟨rfl, Chg.below G1.out⟩
  | false =>
    have HB := Lib.hid hb
    clear hb
    refine (new_ls w1 most HB.out).mono ?_; rintro e w2 ⟨rfl, hLs, g2⟩
    have HL := Lib.hid hLs
    have G2 := Lib.hid g2
    clear hLs g2
    go_wp2_with fail
    refine (may_any w2 most).mono ?_; rintro e w3 ⟨rfl, rfl⟩
    rw [HB.out]
    go_wp2_with fail
    refine name_region ?_; intro W hW
    have gW : Chg (fun _ => False) w2 W := by subst hW; exact (by repeat (first | with_reducible exact Chg.refl _ _ | with_reducible assumption | with_reducible refine Chg.drewN ?_ _ | with_reducible refine Chg.drew ?_ | with_reducible refine Chg.alloc ?_ _ | with_reducible refine Chg.setCell ?_ (by first | (left; rfl) | (left; left; rfl) | (left; right; rfl) | (left; right; left; rfl) | (left; right; right; rfl) | (right; exact Nat.le_refl _) | (right; simp; done) | (right; omega) | (right; simp at *; omega) | (simp at *; omega)) _ | with_reducible refine Chg.trans ?_ (by with_reducible assumption) (by intro i hi hT; first | exact hT | exact False.elim hT | omega | (simp at *; omega))))
    have hR : Rf W (fun k => k = w2.heap.size) w2.heap.size most [] [] := by subst hW; exact rf_new (by go_simp) (by go_simp) (by go_simp) (by intro o; go_simp)
    clear hW
    have HP0 := p4_new HB.out G2.out HL.out gW hR
    have HP : Hid (P4 w (fun _ => False) w1.heap.size w2.heap.size most 0 [] [] [] [] W) := by
      obtain ⟨O, R, h1, h2, h3, h4, h5, h6, h7⟩ := HP0
      have hs := G1.out.size
      exact ⟨O, R, h1, h2, h3, fun k hk => Nat.le_trans hs (h4 k hk), fun k hk => Nat.le_trans hs (h5 k hk), G1.out.trans h6 fun _ _ h => h, h7⟩
    obtain ⟨b, hb⟩ : ∃ b, b = w1.heap.size := ⟨_, rfl⟩
    obtain ⟨r, hr⟩ : ∃ r, r = w2.heap.size := ⟨_, rfl⟩
    rw [← hb, ← hr] at HP
    rw [← hb, ← hr]
    clear hR gW HP0 hb hr
    go_loopw [53] (fun i wr => ∃ k : Nat, k ≤ l.length ∧ i = .int .i64 (↑k : Int) ∧ Hid (∃ T K, P4 w (fun _ => False) b r most (2 * k) T K T K wr)) (fun i _ => l.length - (intOf i).toNat)
    case atStart => exact ⟨0, by omega, rfl, _, _, HP.out⟩
    case round =>
      obtain ⟨k, hkl, rfl, HQ⟩ := hrel
      by_cases hlt : k < l.length
      · obtain ⟨lb, lo, rfl, hlb, hc⟩ := HC.out (by omega)
        obtain ⟨⟨kd, x, n⟩, hx⟩ : ∃ x, l[k]? = some x := ⟨_, List.getElem?_eq_getElem hlt⟩
        obtain ⟨kc0, kc1, kc2⟩ := hc k _ hx
        obtain ⟨T, K, hP⟩ := HQ.out
        have HG := Lib.hid hP.g
        have e0 : wr.cell? ⟨lb, lo + k * 3, none⟩ = some (.int .i64 kd) := by rw [HG.out.cell hlb id]; exact kc0
        have e1 : wr.cell? ⟨lb, lo + k * 3 + 1, none⟩ = some (.int .i64 x) := by rw [HG.out.cell hlb id]; exact kc1
        have e2 : wr.cell? ⟨lb, lo + k * 3 + 2, none⟩ = some (.int .i64 n) := by rw [HG.out.cell hlb id]; exact kc2
        have hw := (HWF.out _ (List.mem_of_getElem? hx)).2.1
        have HP2 := Lib.hid hP
        clear kc0 kc1 kc2 hc hx hP
        go_wp2_with fail
        refine name_calls ?_; intro W2 hW2
        have gW2 : Chg (fun _ => False) wr W2 := by subst hW2; exact (by repeat (first | with_reducible exact Chg.refl _ _ | with_reducible assumption | with_reducible refine Chg.drewN ?_ _ | with_reducible refine Chg.drew ?_ | with_reducible refine Chg.alloc ?_ _ | with_reducible refine Chg.setCell ?_ (by first | (left; rfl) | (left; left; rfl) | (left; right; rfl) | (left; right; left; rfl) | (left; right; right; rfl) | (right; exact Nat.le_refl _) | (right; simp; done) | (right; omega) | (right; simp at *; omega) | (simp at *; omega)) _ | with_reducible refine Chg.trans ?_ (by with_reducible assumption) (by intro i hi hT; first | exact hT | exact False.elim hT | omega | (simp at *; omega))))
        clear hW2
        have HP3 := Lib.hid (HP2.out.still gW2)
        clear gW2
        refine (do_any w W2 _ b r most (2 * k) T K kd x n HP3.out (by omega) hw).mono ?_
        rintro e w4 ⟨rfl, hP4, _⟩
        obtain ⟨T2, hT2⟩ : ∃ T2, T2 = (doS most T K kd x n).1 := ⟨_, rfl⟩
        obtain ⟨K2, hK2⟩ : ∃ K2, K2 = (doS most T K kd x n).2 := ⟨_, rfl⟩
        rw [← hT2, ← hK2] at hP4
        have HP4 := Lib.hid hP4
        clear hP4 hT2 hK2
        go_wp2_with fail
        refine (order_p w w4 _ b r most _ T2 K2 T2 K2 HP4.out (by omega)).mono ?_; rintro e w8 ⟨⟨a8, c8, rfl, ho, k8⟩, hP⟩
        have HP8 := Lib.hid hP
        obtain ⟨ks, hks⟩ : ∃ ks, ks = keysP (T2 ++ K2) := ⟨_, rfl⟩
        have HKL : Hid (ks.length ≤ 1000) := by have := HP8.out.len.1; show _ ≤ _; rw [hks, keys_len, List.length_append]; omega
        rw [← hks] at ho ⊢
        have HI8 : Hid (IsK w8 a8 c8 ks) := RdS.row ho (nums_one _)
        have HKS := Lib.hid hks
        clear hP ho k8 hks
        go_wp2_with fail
        refine (rorder_p w w8 _ b r most _ T2 K2 T2 K2 HP8.out (by omega)).mono ?_; rintro e w9 ⟨⟨a9, c9, rfl, ho, k9⟩, hP⟩
        have HP9 := Lib.hid hP
        rw [← HKS.out] at ho ⊢
        have HI9 : Hid (IsK w9 a9 c9 ks) := RdS.row ho (nums_one _)
        have HI89 : Hid (IsK w9 a8 c8 ks) := HI8.out.keep k9 fun _ _ => id
        clear hP ho k9
        go_wp2_with fail
        refine (same_any w9 a8 a9 c8 c9 ks HI89.out HI9.out (by have := HKL.out; omega)).mono ?_; rintro e w10 ⟨rfl, k10⟩
        have HP10 := Lib.hid (HP9.out.still k10)
        clear k10
        go_wp2
        go_roundw
        case rel => exact ⟨k + 1, by omega, by go_num, _, _, HP10.out.mono (by omega)⟩
        case measure => simp [intOf]; omega
      · obtain rfl : k = l.length := by omega
        obtain ⟨T, K, hP⟩ := HQ.out
        have HP2 := Lib.hid (hP.mono (N' := 120) (by omega))
        obtain ⟨A, hA⟩ : ∃ A, A = sumP T := ⟨_, rfl⟩
        obtain ⟨B, hB⟩ : ∃ B, B = sumP K := ⟨_, rfl⟩
        obtain ⟨C, hC⟩ : ∃ C, C = atK (T ++ K) key := ⟨_, rfl⟩
        obtain ⟨D, hD⟩ : ∃ D, D = hasK (T ++ K) key := ⟨_, rfl⟩
        obtain ⟨E, hE⟩ : ∃ E, E = hasK K key := ⟨_, rfl⟩
        have HV := Lib.hid (And.intro hA (And.intro hB (And.intro hC (And.intro hD hE))))
        clear hP hA hB hC hD hE
        go_wp2_with fail
        refine (bytes_p w wr _ b r most 120 T K T K HP2.out (by omega)).mono ?_; rintro e w5 ⟨rfl, hP, _⟩
        have HP5 := Lib.hid hP
        rw [← HV.out.1, ← HV.out.2.1]
        clear hP
        go_wp2_with fail
        refine (rbytes_p w w5 _ b r most 120 T K T K HP5.out (by omega)).mono ?_; rintro e w6 ⟨rfl, hP, _⟩
        have HP6 := Lib.hid hP
        rw [← HV.out.1, ← HV.out.2.1]
        clear hP
        go_wp2_with fail
        refine (has_p w w6 _ b r most 120 T K T K key HP6.out hk).mono ?_; rintro e w7 ⟨rfl, rfl⟩
        rw [← HV.out.2.2.1, ← HV.out.2.2.2.1]
        go_wp2_with fail
        refine (rhas_p w w6 _ b r most 120 T K T K key HP6.out (by omega)).mono ?_; rintro e w7 ⟨rfl, hP, _⟩
        have HP7 := Lib.hid hP
        rw [← HV.out.2.2.1, ← HV.out.2.2.2.1]
        clear hP
        go_wp2_with fail
        refine (kept_p w w7 _ b r most 120 T K T K key HP7.out hk).mono ?_; rintro e w8 ⟨rfl, rfl⟩
        rw [← HV.out.2.2.2.2]
        go_wp2_with fail
        refine (rkept_p w w7 _ b r most 120 T K T K key HP7.out (by omega)).mono ?_; rintro e w8 ⟨rfl, rfl⟩
        rw [← HV.out.2.2.2.2]
        go_wp2
        go_ret
        exact ⟨by simp, Chg.below HP7.out.g⟩
end Go.Proofs.Ytjeclknahjnhoaa
