/- Laws of sketch: Alone, Order. -/
import Derived.Test.YtmkgmofkfgfdhaaSl
import Derived.Test.YtmkgmofkfgfdhaaOpen
namespace Go.Proofs.Ytmkgmofkfgfdhaa
set_option linter.unusedVariables false
open Go.RowKit


theorem wid_bd (W : Int) (h : 1 ≤ wid W) : wid W ≤ 64 := by unfold wid at *; split at h <;> split <;> omega

set_option maxHeartbeats 1000000 in
theorem sketchAlone_any (n W after key cnt : Int) (w : World) (wn : (Lit.int .i64 n).wf = true) (wW : (Lit.int .i64 W).wf = true) (wa : (Lit.int .i64 after).wf = true) (hk : 0 ≤ key ∧ key ≤ 18446744073709551615) (hc : 0 ≤ cnt ∧ cnt ≤ 255) :
    Calls Try.prog 6 #[.agg #[.int .i64 n, .int .i64 W, .int .i64 after], .int .u64 key, .int .u8 cnt] w fun e w' => e = .returned (.bool true) ∧ Below w.heap.size w w' := by
  obtain ⟨c, rfl⟩ := Int.eq_ofNat_of_zero_le hc.1
  cases hr : decide (1 ≤ n ∧ n ≤ 8 ∧ 1 ≤ wid W ∧ wid W ≤ 65536 ∧ 1 ≤ after ∧ after ≤ 1099511627776)
  · have HD := Lib.hid hr
    clear hr
    go_enter Try.func6, Try.ntmps6
    go_wp2_with fail
    refine (held_any _ _ _ _).mono ?_; rintro e w1 ⟨rfl, b1⟩
    have g1 := Chg.ofBelow (S := fun _ => False) b1
    have z1 : w.heap.size < w1.heap.size := by have := g1.size; simp at this; exact this
    have c1 : ∀ o, w1.cell? ⟨w.heap.size, o, none⟩ = _ := fun o => g1.cell (b := w.heap.size) (by simp) id o
    have f1 : ∀ o, w1.frozen? ⟨w.heap.size, o, none⟩ = _ := fun o => g1.frozen (b := w.heap.size) (by simp) id o
    clear b1
    go_wp2_with fail
    refine name_calls ?_; intro w2 hw2
    have c2 : Chg (fun _ => False) w w2 := by subst hw2; exact (by repeat (first | with_reducible exact Chg.refl _ _ | with_reducible assumption | with_reducible refine Chg.drewN ?_ _ | with_reducible refine Chg.drew ?_ | with_reducible refine Chg.alloc ?_ _ | with_reducible refine Chg.setCell ?_ (by first | (left; rfl) | (right; exact Nat.le_refl _) | (right; simp; done) | (right; omega) | (right; simp at *; omega) | (simp at *; omega)) _ | with_reducible refine Chg.trans ?_ (by with_reducible assumption) (by intro i hi hT; first | exact hT | exact False.elim hT | omega | (simp at *; omega))))
    clear hw2
    refine (right_any _ _ _ _).mono ?_; rintro e w3 ⟨rfl, rfl⟩
    rw [HD.out]
    go_wp2_with fail
    refine (awake_any _).mono ?_; rintro e w4 ⟨rfl, g4⟩
    go_wp2_with fail
    go_ret
    exact ⟨rfl, Chg.below (by repeat (first | with_reducible exact Chg.refl _ _ | with_reducible assumption | with_reducible refine Chg.drewN ?_ _ | with_reducible refine Chg.drew ?_ | with_reducible refine Chg.alloc ?_ _ | with_reducible refine Chg.setCell ?_ (by first | (left; rfl) | (right; exact Nat.le_refl _) | (right; simp; done) | (right; omega) | (right; simp at *; omega) | (simp at *; omega)) _ | with_reducible refine Chg.trans ?_ (by with_reducible assumption) (by intro i hi hT; first | exact hT | exact False.elim hT | omega | (simp at *; omega))))⟩
  · have hr' : 1 ≤ n ∧ n ≤ 8 ∧ 1 ≤ wid W ∧ wid W ≤ 65536 ∧ 1 ≤ after ∧ after ≤ 1099511627776 := of_decide_eq_true hr
    have HD := Lib.hid hr
    have HR := Lib.hid hr'
    clear hr hr'
    by_cases h256 : after ≤ 256
    all_goals
      go_enter Try.func6, Try.ntmps6
      go_wp2_with fail
      refine (held_any _ _ _ _).mono ?_; rintro e w1 ⟨rfl, b1⟩
      have g1 := Chg.ofBelow (S := fun _ => False) b1
      have z1 : w.heap.size < w1.heap.size := by have := g1.size; simp at this; exact this
      have c1 : ∀ o, w1.cell? ⟨w.heap.size, o, none⟩ = _ := fun o => g1.cell (b := w.heap.size) (by simp) id o
      have f1 : ∀ o, w1.frozen? ⟨w.heap.size, o, none⟩ = _ := fun o => g1.frozen (b := w.heap.size) (by simp) id o
      clear b1
      go_wp2_with fail
      refine name_calls ?_; intro w2 hw2
      have c2 : Chg (fun _ => False) w w2 := by subst hw2; exact (by repeat (first | with_reducible exact Chg.refl _ _ | with_reducible assumption | with_reducible refine Chg.drewN ?_ _ | with_reducible refine Chg.drew ?_ | with_reducible refine Chg.alloc ?_ _ | with_reducible refine Chg.setCell ?_ (by first | (left; rfl) | (right; exact Nat.le_refl _) | (right; simp; done) | (right; omega) | (right; simp at *; omega) | (simp at *; omega)) _ | with_reducible refine Chg.trans ?_ (by with_reducible assumption) (by intro i hi hT; first | exact hT | exact False.elim hT | omega | (simp at *; omega))))
      have z2 : w.heap.size < w2.heap.size := by subst hw2; simp; omega
      have k0 : w2.cell? ⟨w.heap.size, 0, none⟩ = some (.int .i64 n) := by subst hw2; go_simp
      have k1 : w2.cell? ⟨w.heap.size, 1, none⟩ = some (.int .i64 (wid W)) := by subst hw2; go_simp
      have k2 : w2.cell? ⟨w.heap.size, 2, none⟩ = some (.int .i64 after) := by subst hw2; go_simp
      clear hw2 c1 f1
      refine (right_any _ _ _ _).mono ?_; rintro e w3 ⟨rfl, rfl⟩
      rw [HD.out]
    · go_wp2_with fail
      refine (awake_any _).mono ?_; rintro e w4 ⟨rfl, g4⟩
      go_wp2_with fail
      go_ret
      exact ⟨rfl, Chg.below (by repeat (first | with_reducible exact Chg.refl _ _ | with_reducible assumption | with_reducible refine Chg.drewN ?_ _ | with_reducible refine Chg.drew ?_ | with_reducible refine Chg.alloc ?_ _ | with_reducible refine Chg.setCell ?_ (by first | (left; rfl) | (right; exact Nat.le_refl _) | (right; simp; done) | (right; omega) | (right; simp at *; omega) | (simp at *; omega)) _ | with_reducible refine Chg.trans ?_ (by with_reducible assumption) (by intro i hi hT; first | exact hT | exact False.elim hT | omega | (simp at *; omega))))⟩
    · obtain ⟨n', hn'⟩ := Int.eq_ofNat_of_zero_le (show 0 ≤ n by have := HR.out; omega)
      obtain ⟨W', hW'⟩ := Int.eq_ofNat_of_zero_le (show 0 ≤ wid W by have := HR.out; omega)
      rw [hn'] at k0
      rw [hW'] at k1
      have HR2 : Hid (1 ≤ (n' : Int) ∧ (n' : Int) ≤ 8 ∧ 1 ≤ (W' : Int) ∧ (W' : Int) ≤ 65536 ∧ 1 ≤ after ∧ after ≤ 1099511627776) := by have := HR.out; rw [hn', hW'] at this; exact this
      clear hn' hW'
      go_wp2_with fail
      refine (new_try n' W' after _ (by have := HR2.out; omega) (by have := HR2.out; omega) (by have := HR2.out; omega)).mono ?_; rintro e w4 ⟨rfl, ⟨g, cap, R, hs, hg, hRr⟩, g4⟩
      have hs0 : Sk w4 w2.heap.size g cap n' W' R after 0 (lone key W' n' 0) := by rw [lone_zero]; exact hs
      have HS := Lib.hid hs0
      have G4 := Lib.hid (c2.trans g4 (fun _ _ h => h))
      clear hs hs0
      go_wp2_with fail
      go_loopw [42] (fun i wr => ∃ k : Nat, k ≤ c ∧ i = .int .u8 (↑k : Int) ∧ Hid (Sk wr w2.heap.size g cap n' W' R after k (lone key W' n' k)) ∧ Hid (Chg (fun c => w.heap.size ≤ c) w wr)) (fun i _ => c - (intOf i).toNat)
      case atStart => exact ⟨0, by omega, rfl, HS.out, G4.out.mono (fun _ _ h => h.elim)⟩
      case round =>
        obtain ⟨k, hk1, rfl, HK, HG⟩ := hrel
        by_cases hlt : k < c
        · go_wp2_with fail
          refine (add_rows _ _ _ _ _ _ _ _ _ key _ HK.out (by omega) (lone_bd _ _ _ _ (by omega)) (by omega)).mono ?_; rintro e w5 ⟨rfl, hs, hc⟩
          rw [if_neg (by omega), bump_lone] at hs
          have HS2 := Lib.hid hs
          have HG2 := Lib.hid (tr_own HG.out hc (Nat.le_of_lt z2) (fun i hi => by have := hRr i hi; omega))
          clear hs
          go_wp2
          go_roundw
          case rel => exact ⟨k + 1, by omega, by go_num, HS2.out, HG2.out⟩
          case measure => simp [intOf]; omega
        · obtain rfl : k = c := by omega
          have hsz := HK.out.size
          have e3 := least_lone key W' n' k n' (by omega) (by omega)
          have HE := Lib.hid e3
          clear e3
          go_wp2_with fail
          refine (count_any _ _ _ _ _ _ _ _ _ key _ HK.out (by omega) (fun i j => ⟨(lone_bd _ _ _ _ (by omega) i j).1, Int.le_trans (lone_bd _ _ _ _ (by omega) i j).2 (by omega)⟩)).mono ?_; rintro e w5 ⟨rfl, n5, rfl⟩
          rw [HE.out]
          go_wp2_with fail
          refine (adds_any _ _ _ _ _ _ _ _ _ _ (HK.out.drewN _)).mono ?_; rintro e w5 ⟨rfl, rfl⟩
          go_wp2_with fail
          refine (awake_any _).mono ?_; rintro e w6 ⟨rfl, g6⟩
          go_wp2_with fail
          go_ret
          exact ⟨rfl, Chg.below (own_done ((HG.out.drewN _).trans g6 (fun _ _ h => h.elim)))⟩
end Go.Proofs.Ytmkgmofkfgfdhaa
