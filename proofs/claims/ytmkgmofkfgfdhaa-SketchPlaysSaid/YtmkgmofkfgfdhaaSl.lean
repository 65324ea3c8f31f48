/- Laws of sketch: Hashes, New, Alone. -/
import Derived.Test.YtmkgmofkfgfdhaaSh
namespace Go.Proofs.Ytmkgmofkfgfdhaa
set_option linter.unusedVariables false
open Go.RowKit

theorem tr_own {w a b : World} {B b0 n : Nat} {R : Nat → Nat} (h1 : Chg (fun c => B ≤ c) w a) (h2 : Chg (SkS b0 n R) a b) (hb : B ≤ b0) (hR : ∀ i, i < n → B ≤ R i) : Chg (fun c => B ≤ c) w b :=
  h1.trans h2 (fun i _ hi => by
    rcases hi with rfl | ⟨j, hj, rfl⟩
    · exact hb
    · exact hR j hj)
theorem own_done {w a : World} (h : Chg (fun c => w.heap.size ≤ c) w a) : Chg (fun _ => False) w a := h.mono (fun i hi hc => by omega)

set_option maxHeartbeats 1000000 in
theorem sketchHashes_any (s : ByteArray) (w : World) (hs : s.size ≤ maxLen) :
    Calls Try.prog 8 #[.string s] w fun e w' => e = .returned (.bool true) ∧ Below w.heap.size w w' := by
  have hs' := hs
  unfold maxLen at hs'
  by_cases h : 600 < s.size
  · go_enter Try.func8, Try.ntmps8
    go_wp2_with fail
    refine (awake_any _).mono ?_; rintro e w1 ⟨rfl, g1⟩
    go_wp2_with fail
    go_ret
    exact ⟨rfl, Chg.below (by repeat (first | with_reducible exact Chg.refl _ _ | with_reducible assumption | with_reducible refine Chg.drewN ?_ _ | with_reducible refine Chg.drew ?_ | with_reducible refine Chg.alloc ?_ _ | with_reducible refine Chg.setCell ?_ (by first | (left; rfl) | (right; exact Nat.le_refl _) | (right; simp; done) | (right; omega) | (right; simp at *; omega) | (simp at *; omega)) _ | with_reducible refine Chg.trans ?_ (by with_reducible assumption) (by intro i hi hT; first | exact hT | exact False.elim hT | omega | (simp at *; omega))))⟩
  · go_enter Try.func8, Try.ntmps8
    go_wp2_with (first | (go_at_call 20; refine (hash_any _ _ hs).mono ?_; rintro e w' ⟨rfl, rfl⟩) | (go_at_call 21; refine (rhash_any _ _ hs).mono ?_; rintro e w' ⟨rfl, rfl⟩))
    refine (awake_any _).mono ?_; rintro e w1 ⟨rfl, g1⟩
    go_wp2_with fail
    go_ret
    exact ⟨ret_bool (by simp), Chg.below (by repeat (first | with_reducible exact Chg.refl _ _ | with_reducible assumption | with_reducible refine Chg.drewN ?_ _ | with_reducible refine Chg.drew ?_ | with_reducible refine Chg.alloc ?_ _ | with_reducible refine Chg.setCell ?_ (by first | (left; rfl) | (right; exact Nat.le_refl _) | (right; simp; done) | (right; omega) | (right; simp at *; omega) | (simp at *; omega)) _ | with_reducible refine Chg.trans ?_ (by with_reducible assumption) (by intro i hi hT; first | exact hT | exact False.elim hT | omega | (simp at *; omega))))⟩

set_option maxHeartbeats 1000000 in
theorem sketchNew_any (n W after : Int) (w : World) (wn : (Lit.int .i64 n).wf = true) (wW : (Lit.int .i64 W).wf = true) (wa : (Lit.int .i64 after).wf = true) :
    Calls Try.prog 4 #[.int .i64 n, .int .i64 W, .int .i64 after] w fun e w' => e = .returned (.bool true) ∧ Below w.heap.size w w' := by
  have bW := bounds_i64 wW
  by_cases hr : 1 ≤ n ∧ n ≤ 8 ∧ 1 ≤ W ∧ W ≤ 65536 ∧ 1 ≤ after ∧ after ≤ 1099511627776
  · obtain ⟨n', rfl⟩ := Int.eq_ofNat_of_zero_le (show 0 ≤ n by omega)
    obtain ⟨W', rfl⟩ := Int.eq_ofNat_of_zero_le (show 0 ≤ W by omega)
    have e1 : ¬ 8 < (n' : Int) := by omega
    have d1 : decide (1 ≤ (n' : Int) ∧ (n' : Int) ≤ 8 ∧ 1 ≤ (W' : Int) ∧ (W' : Int) ≤ 65536 ∧ 1 ≤ after ∧ after ≤ 1099511627776) = true := by simpa using hr
    have HD := Lib.hid d1
    have HR := Lib.hid hr
    clear d1 hr
    go_enter Try.func4, Try.ntmps4
    go_wp2_with fail
    refine (new_try n' W' after _ (by have := HR.out; omega) (by have := HR.out; omega) (by have := HR.out; omega)).mono ?_; rintro e w1 ⟨rfl, ⟨g, cap, R, hs, hg, hR⟩, g1⟩
    have HS := Lib.hid hs
    clear hs
    go_wp2_with fail
    refine (right_any _ _ _ _).mono ?_; rintro e w2 ⟨rfl, rfl⟩
    rw [HD.out]
    go_wp2_with fail
    refine (adds_any _ _ _ _ _ _ _ _ _ _ HS.out).mono ?_; rintro e w2 ⟨rfl, rfl⟩
    have e0 : leastF (fun _ _ => 0) W' (W' : Int) n' = 0 := by
      rw [← lone_zero 0 W' n']
      have : ∀ k, leastF (lone 0 W' n' 0) W' W' k = 0 := by
        intro k
        rw [lone_zero]
        induction k using Nat.strongRecOn with
        | _ k ih =>
          match k with
          | 0 => rfl
          | 1 => rfl
          | k + 2 => simp [leastF, ih (k + 1) (by omega)]
      exact this n'
    have HE := Lib.hid e0
    clear e0
    have b1 : (W' : Int) ≤ 65536 := by have := HR.out; omega
    go_wp2_with fail
    refine (count_any _ _ _ _ _ _ _ _ _ (W' : Int) _ HS.out (by omega) (fun i j => by omega)).mono ?_; rintro e w4 ⟨rfl, n4, rfl⟩
    rw [HE.out]
    go_wp2_with fail
    refine (awake_any _).mono ?_; rintro e w5 ⟨rfl, g5⟩
    go_wp2_with fail
    go_ret
    exact ⟨rfl, Chg.below (by repeat (first | with_reducible exact Chg.refl _ _ | with_reducible assumption | with_reducible refine Chg.drewN ?_ _ | with_reducible refine Chg.drew ?_ | with_reducible refine Chg.alloc ?_ _ | with_reducible refine Chg.setCell ?_ (by first | (left; rfl) | (right; exact Nat.le_refl _) | (right; simp; done) | (right; omega) | (right; simp at *; omega) | (simp at *; omega)) _ | with_reducible refine Chg.trans ?_ (by with_reducible assumption) (by intro i hi hT; first | exact hT | exact False.elim hT | omega | (simp at *; omega))))⟩
  · by_cases hc : 8 < n ∧ 1048576 < W
    all_goals
      have HN := Lib.hid hr
      clear hr
    · have hr2 : ¬ (1 ≤ n ∧ n ≤ 8 ∧ 1 ≤ (1048576 : Int) ∧ (1048576 : Int) ≤ 65536 ∧ 1 ≤ after ∧ after ≤ 1099511627776) := by omega
      have d1 : decide (1 ≤ n ∧ n ≤ 8 ∧ 1 ≤ (1048576 : Int) ∧ (1048576 : Int) ≤ 65536 ∧ 1 ≤ after ∧ after ≤ 1099511627776) = false := by simp
      have HD := Lib.hid d1
      have HR := Lib.hid hr2
      obtain ⟨c1, c2⟩ := hc
      clear d1 hr2
      go_enter Try.func4, Try.ntmps4
      go_wp2_with fail
      refine (new_no _ _ _ _ HR.out).mono ?_; rintro e w2 ⟨rfl, rfl⟩
      go_wp2_with fail
      refine (right_any _ _ _ _).mono ?_; rintro e w2 ⟨rfl, rfl⟩
      rw [HD.out]
      go_wp2_with fail
      refine (awake_any _).mono ?_; rintro e w5 ⟨rfl, g5⟩
      go_wp2_with fail
      go_ret
      exact ⟨rfl, Chg.below (by repeat (first | with_reducible exact Chg.refl _ _ | with_reducible assumption | with_reducible refine Chg.drewN ?_ _ | with_reducible refine Chg.drew ?_ | with_reducible refine Chg.alloc ?_ _ | with_reducible refine Chg.setCell ?_ (by first | (left; rfl) | (right; exact Nat.le_refl _) | (right; simp; done) | (right; omega) | (right; simp at *; omega) | (simp at *; omega)) _ | with_reducible refine Chg.trans ?_ (by with_reducible assumption) (by intro i hi hT; first | exact hT | exact False.elim hT | omega | (simp at *; omega))))⟩
    · have d1 : decide (1 ≤ n ∧ n ≤ 8 ∧ 1 ≤ W ∧ W ≤ 65536 ∧ 1 ≤ after ∧ after ≤ 1099511627776) = false := by simpa using HN.out
      have HD := Lib.hid d1
      clear d1
      by_cases c1 : 8 < n
      all_goals
        first
          | have c2 : ¬ 1048576 < W := fun h => hc ⟨c1, h⟩
          | skip
        clear hc
        go_enter Try.func4, Try.ntmps4
        go_wp2_with fail
        refine (new_no _ _ _ _ HN.out).mono ?_; rintro e w2 ⟨rfl, rfl⟩
        go_wp2_with fail
        refine (right_any _ _ _ _).mono ?_; rintro e w2 ⟨rfl, rfl⟩
        rw [HD.out]
        go_wp2_with fail
        refine (awake_any _).mono ?_; rintro e w5 ⟨rfl, g5⟩
        go_wp2_with fail
        go_ret
        exact ⟨rfl, Chg.below (by repeat (first | with_reducible exact Chg.refl _ _ | with_reducible assumption | with_reducible refine Chg.drewN ?_ _ | with_reducible refine Chg.drew ?_ | with_reducible refine Chg.alloc ?_ _ | with_reducible refine Chg.setCell ?_ (by first | (left; rfl) | (right; exact Nat.le_refl _) | (right; simp; done) | (right; omega) | (right; simp at *; omega) | (simp at *; omega)) _ | with_reducible refine Chg.trans ?_ (by with_reducible assumption) (by intro i hi hT; first | exact hT | exact False.elim hT | omega | (simp at *; omega))))⟩

/-- How wide a sketch is made in the laws. -/
def wid (W : Int) : Int := if 64 < W then W % 64 + 1 else W

set_option maxHeartbeats 1000000 in
theorem held_any (n W after : Int) (w : World) :
    Calls Try.prog 10 #[.agg #[.int .i64 n, .int .i64 W, .int .i64 after]] w fun e w' => e = .returned (.agg #[.int .i64 n, .int .i64 (wid W), .int .i64 after]) ∧ Below w.heap.size w w' := by
  by_cases h : 64 < W
  · have hw : wid W = W % 64 + 1 := by simp [wid, h]
    rw [hw]
    go_enter Try.func10, Try.ntmps10
    go_wp2

    exact bodyPost_ret (v := .agg #[.int .i64 n, .int .i64 (W % 64 + 1), .int .i64 after]) (by simp [results, Try.results10, go_sem]) rfl ⟨rfl, (by repeat (first | with_reducible exact Below.refl _ _ | with_reducible assumption | with_reducible refine below_drewN ?_ _ | with_reducible refine Below.drew ?_ | with_reducible refine Below.alloc ?_ (by first | exact Nat.le_refl _ | assumption | (simp; done) | omega | (simp at *; omega)) _ | with_reducible refine Below.setCell ?_ (by first | exact Nat.le_refl _ | assumption | (simp; done) | omega | (simp at *; omega)) _ | with_reducible refine Below.trans ?_ (Below.mono (by with_reducible assumption) (by first | exact Nat.le_refl _ | assumption | (simp; done) | omega | (simp at *; omega)))))⟩
  · have hw : wid W = W := by simp [wid, h]
    rw [hw]
    go_enter Try.func10, Try.ntmps10
    go_wp2
    exact bodyPost_ret (v := .agg #[.int .i64 n, .int .i64 W, .int .i64 after]) (by simp [results, Try.results10, go_sem]) rfl ⟨rfl, (by repeat (first | with_reducible exact Below.refl _ _ | with_reducible assumption | with_reducible refine below_drewN ?_ _ | with_reducible refine Below.drew ?_ | with_reducible refine Below.alloc ?_ (by first | exact Nat.le_refl _ | assumption | (simp; done) | omega | (simp at *; omega)) _ | with_reducible refine Below.setCell ?_ (by first | exact Nat.le_refl _ | assumption | (simp; done) | omega | (simp at *; omega)) _ | with_reducible refine Below.trans ?_ (Below.mono (by with_reducible assumption) (by first | exact Nat.le_refl _ | assumption | (simp; done) | omega | (simp at *; omega)))))⟩

end Go.Proofs.Ytmkgmofkfgfdhaa
