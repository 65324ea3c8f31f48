/- The walks of retry's reference. -/
import Derived.Test.YtnkhlnnkjmjfcaaRx
import Derived.Test.YtnkhlnnkjmjfcaaTail
namespace Go.Proofs.Ytnkhlnnkjmjfcaa
set_option linter.unusedVariables false
open Go.RowKit

set_option maxHeartbeats 400000 in
theorem rtick_any (n : Int) (w : World) :
    Calls Try.prog 27 #[.int .i64 n] w fun e w' => e = .returned (.int .i64 (tk n)) ∧ w = w' := by
  go_enter Try.func27, Try.ntmps27
  go_wp2
  all_goals go_ret
  all_goals exact ⟨ret_int (by simp [tk]; omega), rfl⟩

/-- The reference's timer by value. -/
@[reducible] def tmV (f fi mo row wh : Int) : Value := .agg #[.int .i64 f, .int .i64 fi, .int .i64 mo, .int .i64 row, .int .i64 wh]

set_option maxHeartbeats 400000 in
theorem rnew_ok (f fi mo : Int) (w : World) (h : 0 ≤ f ∧ f ≤ 1000 ∧ 1 ≤ fi ∧ fi ≤ mo ∧ mo ≤ 1099511627776) :
    Calls Try.prog 10 #[.int .i64 f, .int .i64 fi, .int .i64 mo] w fun e w' => e = .returned (.tuple #[.agg #[.int .i64 f, .int .i64 fi, .int .i64 mo, .int .i64 0, .int .i64 0], .int .i64 0]) ∧ Below w.heap.size w w' := by
  have h1 : fi ≤ 1099511627776 := by omega
  go_enter Try.func10, Try.ntmps10
  go_wp2
  exact bodyPost_ret (v := .tuple #[.agg #[.int .i64 f, .int .i64 fi, .int .i64 mo, .int .i64 0, .int .i64 0], .int .i64 0]) (by simp [results, Try.results10, go_sem]) rfl ⟨rfl, (by repeat (first | with_reducible exact Below.refl _ _ | with_reducible assumption | with_reducible refine below_drewN ?_ _ | with_reducible refine Below.drew ?_ | with_reducible refine Below.alloc ?_ (by first | exact Nat.le_refl _ | assumption | (simp; done) | omega | (simp at *; omega)) _ | with_reducible refine Below.setCell ?_ (by first | exact Nat.le_refl _ | assumption | (simp; done) | omega | (simp at *; omega)) _ | with_reducible refine Below.trans ?_ (Below.mono (by with_reducible assumption) (by first | exact Nat.le_refl _ | assumption | (simp; done) | omega | (simp at *; omega)))))⟩

set_option maxHeartbeats 400000 in
theorem rnew_no (f fi mo : Int) (w : World) (h : ¬ (0 ≤ f ∧ f ≤ 1000 ∧ 1 ≤ fi ∧ fi ≤ mo ∧ mo ≤ 1099511627776)) :
    Calls Try.prog 10 #[.int .i64 f, .int .i64 fi, .int .i64 mo] w fun e w' => e = .returned (.tuple #[.agg #[.int .i64 0, .int .i64 0, .int .i64 0, .int .i64 0, .int .i64 0], .int .i64 1]) ∧ Below w.heap.size w w' := by
  by_cases h1 : f < 0
  rotate_left
  by_cases h2 : 1000 < f
  rotate_left
  by_cases h3 : fi < 1
  rotate_left
  by_cases h4 : 1099511627776 < fi
  rotate_left
  by_cases h5 : mo < fi
  rotate_left
  have h6 : 1099511627776 < mo := by omega
  all_goals
    clear h
    go_enter Try.func10, Try.ntmps10
    go_wp2
    exact bodyPost_ret (v := .tuple #[.agg #[.int .i64 0, .int .i64 0, .int .i64 0, .int .i64 0, .int .i64 0], .int .i64 1]) (by simp [results, Try.results10, go_sem]) rfl ⟨rfl, (by repeat (first | with_reducible exact Below.refl _ _ | with_reducible assumption | with_reducible refine below_drewN ?_ _ | with_reducible refine Below.drew ?_ | with_reducible refine Below.alloc ?_ (by first | exact Nat.le_refl _ | assumption | (simp; done) | omega | (simp at *; omega)) _ | with_reducible refine Below.setCell ?_ (by first | exact Nat.le_refl _ | assumption | (simp; done) | omega | (simp at *; omega)) _ | with_reducible refine Below.trans ?_ (Below.mono (by with_reducible assumption) (by first | exact Nat.le_refl _ | assumption | (simp; done) | omega | (simp at *; omega)))))⟩

set_option maxHeartbeats 400000 in
theorem rnewFuse_ok (f r : Int) (w : World) (h : 1 ≤ f ∧ f ≤ 1000 ∧ 1 ≤ r ∧ r ≤ 1099511627776) :
    Calls Try.prog 20 #[.int .i64 f, .int .i64 r] w fun e w' => e = .returned (.tuple #[.agg #[.int .i64 f, .int .i64 r, .int .i64 0, .int .i64 0], .int .i64 0]) ∧ Below w.heap.size w w' := by
  go_enter Try.func20, Try.ntmps20
  go_wp2
  exact bodyPost_ret (v := .tuple #[.agg #[.int .i64 f, .int .i64 r, .int .i64 0, .int .i64 0], .int .i64 0]) (by simp [results, Try.results20, go_sem]) rfl ⟨rfl, (by repeat (first | with_reducible exact Below.refl _ _ | with_reducible assumption | with_reducible refine below_drewN ?_ _ | with_reducible refine Below.drew ?_ | with_reducible refine Below.alloc ?_ (by first | exact Nat.le_refl _ | assumption | (simp; done) | omega | (simp at *; omega)) _ | with_reducible refine Below.setCell ?_ (by first | exact Nat.le_refl _ | assumption | (simp; done) | omega | (simp at *; omega)) _ | with_reducible refine Below.trans ?_ (Below.mono (by with_reducible assumption) (by first | exact Nat.le_refl _ | assumption | (simp; done) | omega | (simp at *; omega)))))⟩

set_option maxHeartbeats 400000 in
theorem rnewFuse_no (f r : Int) (w : World) (h : ¬ (1 ≤ f ∧ f ≤ 1000 ∧ 1 ≤ r ∧ r ≤ 1099511627776)) :
    Calls Try.prog 20 #[.int .i64 f, .int .i64 r] w fun e w' => e = .returned (.tuple #[.agg #[.int .i64 0, .int .i64 0, .int .i64 0, .int .i64 0], .int .i64 1]) ∧ Below w.heap.size w w' := by
  by_cases h1 : f < 1
  rotate_left
  by_cases h2 : 1000 < f
  rotate_left
  by_cases h3 : r < 1
  rotate_left
  have h4 : 1099511627776 < r := by omega
  all_goals
    clear h
    go_enter Try.func20, Try.ntmps20
    go_wp2
    exact bodyPost_ret (v := .tuple #[.agg #[.int .i64 0, .int .i64 0, .int .i64 0, .int .i64 0], .int .i64 1]) (by simp [results, Try.results20, go_sem]) rfl ⟨rfl, (by repeat (first | with_reducible exact Below.refl _ _ | with_reducible assumption | with_reducible refine below_drewN ?_ _ | with_reducible refine Below.drew ?_ | with_reducible refine Below.alloc ?_ (by first | exact Nat.le_refl _ | assumption | (simp; done) | omega | (simp at *; omega)) _ | with_reducible refine Below.setCell ?_ (by first | exact Nat.le_refl _ | assumption | (simp; done) | omega | (simp at *; omega)) _ | with_reducible refine Below.trans ?_ (Below.mono (by with_reducible assumption) (by first | exact Nat.le_refl _ | assumption | (simp; done) | omega | (simp at *; omega)))))⟩

/-- The rests, one behind the other. -/
def rst (fi mo : Int) : Nat → Int
  | 0 => fi
  | n + 1 => min (2 * rst fi mo n) mo
theorem rst_bd (fi mo : Int) (h : 1 ≤ fi ∧ fi ≤ mo) : ∀ n, 1 ≤ rst fi mo n ∧ rst fi mo n ≤ mo
  | 0 => by simp [rst]; omega
  | n + 1 => by have := rst_bd fi mo h n; simp [rst]; omega
theorem rst_top (fi mo : Int) (h : 1 ≤ fi ∧ fi ≤ mo) (j : Nat) (hj : rst fi mo j = mo) : ∀ d, rst fi mo (j + d) = mo
  | 0 => hj
  | d + 1 => by have := rst_top fi mo h j hj d; show min (2 * rst fi mo (j + d)) mo = mo; omega

set_option maxHeartbeats 400000 in
theorem rrest_any (f fi mo row wh : Int) (k : Nat) (w : World) (hm : 1 ≤ fi ∧ fi ≤ mo ∧ mo ≤ 1099511627776) (hk : 1 ≤ k ∧ k ≤ 2000) :
    Calls Try.prog 28 #[.agg #[.int .i64 f, .int .i64 fi, .int .i64 mo, .int .i64 row, .int .i64 wh], .int .i64 k] w
      fun e w' => e = .returned (.int .i64 (rst fi mo (k - 1))) ∧ Below w.heap.size w w' := by
  go_enter Try.func28, Try.ntmps28
  go_wp2
  go_loop [5, 6] (fun r i => ∃ (j : Nat) (R : Int), j + 1 ≤ k ∧ i = .int .i64 (↑(j + 1) : Int) ∧ r = .int .i64 R ∧ 1 ≤ R ∧ R ≤ 2199023255552 ∧ Hid (min R mo = rst fi mo j)) (fun _ i => k - (intOf i).toNat)
  case atStart => exact ⟨0, fi, by omega, by simp, rfl, by omega, by omega, by show min fi mo = fi; omega⟩
  case round =>
    obtain ⟨j, R, hj, rfl, rfl, h1, h2, H⟩ := hrel
    by_cases hlt : j + 1 < k
    · by_cases hR : R < mo
      · go_wp2
        go_round
        case rel => exact ⟨j + 1, R * 2, by omega, by go_num, rfl, by omega, by omega, by have := H.out; show min (R * 2) mo = min (2 * rst fi mo j) mo; omega⟩
        case measure => simp [intOf]; omega
      · go_wp2
        all_goals go_ret
        all_goals refine ⟨ret_int ?_, (by repeat (first | with_reducible exact Below.refl _ _ | with_reducible assumption | with_reducible refine below_drewN ?_ _ | with_reducible refine Below.drew ?_ | with_reducible refine Below.alloc ?_ (by first | exact Nat.le_refl _ | assumption | (simp; done) | omega | (simp at *; omega)) _ | with_reducible refine Below.setCell ?_ (by first | exact Nat.le_refl _ | assumption | (simp; done) | omega | (simp at *; omega)) _ | with_reducible refine Below.trans ?_ (Below.mono (by with_reducible assumption) (by first | exact Nat.le_refl _ | assumption | (simp; done) | omega | (simp at *; omega)))))⟩
        all_goals
          have e := H.out
          have t := rst_top fi mo ⟨hm.1, hm.2.1⟩ j (by omega) (k - 1 - j)
          rw [show j + (k - 1 - j) = k - 1 from by omega] at t
          omega
    · obtain rfl : k = j + 1 := by omega
      go_wp2
      all_goals go_ret
      all_goals refine ⟨ret_int ?_, (by repeat (first | with_reducible exact Below.refl _ _ | with_reducible assumption | with_reducible refine below_drewN ?_ _ | with_reducible refine Below.drew ?_ | with_reducible refine Below.alloc ?_ (by first | exact Nat.le_refl _ | assumption | (simp; done) | omega | (simp at *; omega)) _ | with_reducible refine Below.setCell ?_ (by first | exact Nat.le_refl _ | assumption | (simp; done) | omega | (simp at *; omega)) _ | with_reducible refine Below.trans ?_ (Below.mono (by with_reducible assumption) (by first | exact Nat.le_refl _ | assumption | (simp; done) | omega | (simp at *; omega)))))⟩
      all_goals
        have e := H.out
        omega

theorem rrest_succ (f fi mo wh : Int) (row : Nat) (w : World) (hm : 1 ≤ fi ∧ fi ≤ mo ∧ mo ≤ 1099511627776) (hk : row ≤ 1000) :
    Calls Try.prog 28 #[.agg #[.int .i64 f, .int .i64 fi, .int .i64 mo, .int .i64 ((row : Int) + 1), .int .i64 wh], .int .i64 ((row : Int) + 1)] w
      fun e w' => e = .returned (.int .i64 (rst fi mo row)) ∧ Below w.heap.size w w' :=
  rrest_any f fi mo ((row : Int) + 1) wh (row + 1) w hm (by omega)

set_option maxHeartbeats 400000 in
theorem rover_any (f fi mo row wh : Int) (w : World) :
    Calls Try.prog 26 #[.agg #[.int .i64 f, .int .i64 fi, .int .i64 mo, .int .i64 row, .int .i64 wh]] w
      fun e w' => e = .returned (.bool (decide (f < row))) ∧ Below w.heap.size w w' := by
  go_enter Try.func26, Try.ntmps26
  go_wp2
  try (go_quiet (fail); go_wp2)
  go_ret
  exact ⟨rfl, (by repeat (first | with_reducible exact Below.refl _ _ | with_reducible assumption | with_reducible refine below_drewN ?_ _ | with_reducible refine Below.drew ?_ | with_reducible refine Below.alloc ?_ (by first | exact Nat.le_refl _ | assumption | (simp; done) | omega | (simp at *; omega)) _ | with_reducible refine Below.setCell ?_ (by first | exact Nat.le_refl _ | assumption | (simp; done) | omega | (simp at *; omega)) _ | with_reducible refine Below.trans ?_ (Below.mono (by with_reducible assumption) (by first | exact Nat.le_refl _ | assumption | (simp; done) | omega | (simp at *; omega)))))⟩

set_option maxHeartbeats 400000 in
theorem rgood_any (f fi mo row wh : Int) (w : World) :
    Calls Try.prog 14 #[.agg #[.int .i64 f, .int .i64 fi, .int .i64 mo, .int .i64 row, .int .i64 wh]] w
      fun e w' => e = .returned (.agg #[.int .i64 f, .int .i64 fi, .int .i64 mo, .int .i64 0, .int .i64 0]) ∧ Below w.heap.size w w' := by
  go_enter Try.func14, Try.ntmps14
  go_wp2
  exact bodyPost_ret (v := .agg #[.int .i64 f, .int .i64 fi, .int .i64 mo, .int .i64 0, .int .i64 0]) (by simp [results, Try.results14, go_sem]) rfl ⟨rfl, (by repeat (first | with_reducible exact Below.refl _ _ | with_reducible assumption | with_reducible refine below_drewN ?_ _ | with_reducible refine Below.drew ?_ | with_reducible refine Below.alloc ?_ (by first | exact Nat.le_refl _ | assumption | (simp; done) | omega | (simp at *; omega)) _ | with_reducible refine Below.setCell ?_ (by first | exact Nat.le_refl _ | assumption | (simp; done) | omega | (simp at *; omega)) _ | with_reducible refine Below.trans ?_ (Below.mono (by with_reducible assumption) (by first | exact Nat.le_refl _ | assumption | (simp; done) | omega | (simp at *; omega)))))⟩

set_option maxHeartbeats 400000 in
theorem rleft_any (f fi mo row wh : Int) (w : World) (h : 0 ≤ f ∧ f ≤ 1000 ∧ 0 ≤ row ∧ row ≤ 2000) :
    Calls Try.prog 18 #[.agg #[.int .i64 f, .int .i64 fi, .int .i64 mo, .int .i64 row, .int .i64 wh]] w
      fun e w' => e = .returned (.int .i64 (max (f - row) 0)) ∧ Below w.heap.size w w' := by
  by_cases h1 : f < row
  all_goals
    go_enter Try.func18, Try.ntmps18
    go_wp2
    try (go_quiet (fail); go_wp2)
    go_ret
    exact ⟨ret_int (by omega), (by repeat (first | with_reducible exact Below.refl _ _ | with_reducible assumption | with_reducible refine below_drewN ?_ _ | with_reducible refine Below.drew ?_ | with_reducible refine Below.alloc ?_ (by first | exact Nat.le_refl _ | assumption | (simp; done) | omega | (simp at *; omega)) _ | with_reducible refine Below.setCell ?_ (by first | exact Nat.le_refl _ | assumption | (simp; done) | omega | (simp at *; omega)) _ | with_reducible refine Below.trans ?_ (Below.mono (by with_reducible assumption) (by first | exact Nat.le_refl _ | assumption | (simp; done) | omega | (simp at *; omega)))))⟩

set_option maxHeartbeats 400000 in
theorem rready_any (f fi mo row wh now : Int) (w : World) :
    Calls Try.prog 16 #[.agg #[.int .i64 f, .int .i64 fi, .int .i64 mo, .int .i64 row, .int .i64 wh], .int .i64 now] w
      fun e w' => e = .returned (.bool (decide (row ≤ f ∧ wh ≤ tk now))) ∧ Below w.heap.size w w' := by
  by_cases h1 : f < row
  all_goals
    go_enter Try.func16, Try.ntmps16
    go_wp2_with fail
    (generalize hw0 : World.alloc w _ = w0); (have k0 : w0.cell? ⟨w.heap.size, 0, none⟩ = some (.int .i64 f) := by subst hw0; go_simp); (have k1 : w0.cell? ⟨w.heap.size, 1, none⟩ = some (.int .i64 fi) := by subst hw0; go_simp); (have k2 : w0.cell? ⟨w.heap.size, 2, none⟩ = some (.int .i64 mo) := by subst hw0; go_simp); (have k3 : w0.cell? ⟨w.heap.size, 3, none⟩ = some (.int .i64 row) := by subst hw0; go_simp); (have k4 : w0.cell? ⟨w.heap.size, 4, none⟩ = some (.int .i64 wh) := by subst hw0; go_simp); (have kf : ∀ o, w0.frozen? ⟨w.heap.size, o, none⟩ = false := by subst hw0; intro o; go_simp); (have hB : w.heap.size < w0.heap.size := by subst hw0; simp); (have b0 : Below w.heap.size w w0 := by subst hw0; exact (by repeat (first | with_reducible exact Below.refl _ _ | with_reducible assumption | with_reducible refine below_drewN ?_ _ | with_reducible refine Below.drew ?_ | with_reducible refine Below.alloc ?_ (by first | exact Nat.le_refl _ | assumption | (simp; done) | omega | (simp at *; omega)) _ | with_reducible refine Below.setCell ?_ (by first | exact Nat.le_refl _ | assumption | (simp; done) | omega | (simp at *; omega)) _ | with_reducible refine Below.trans ?_ (Below.mono (by with_reducible assumption) (by first | exact Nat.le_refl _ | assumption | (simp; done) | omega | (simp at *; omega)))))); (clear hw0)
    (have hN : w.heap.size + 1 ≤ (World.heap w0).size := by first | assumption | exact Nat.le_refl _ | (simp; done) | omega | (simp; omega) | (simp at *; omega)); (have kr := fun d os b o (h : b < w.heap.size + 1) => (below_regrown w0 d os).cell (p := ⟨b, o, none⟩) (Nat.lt_of_lt_of_le h hN)); (refine wp_region_quiet_below (by kernel_rfl) (by kernel_rfl) ?_); (repeat (first | go_big_quiet_step ((first | (go_at_call 26; exact Calls.regrown_of (rover_any _ _ _ _ _ _)) | (go_at_call 27; exact Calls.regrown_of (same_below (rtick_any _ _))))) | quiet_step ((first | (go_at_call 26; exact Calls.regrown_of (rover_any _ _ _ _ _ _)) | (go_at_call 27; exact Calls.regrown_of (same_below (rtick_any _ _))))))); (refine wpQuiet_nil ?_); (intro w9 hw9); (obtain ⟨⟨dq, osq⟩, hw9⟩ := hw9); (have g9 := below_regrown w0 dq osq); (rw [← hw9] at g9); (have g9 : Below (w.heap.size + 1) _ w9 := g9.mono hN); (have z9 : w.heap.size + 1 ≤ w9.heap.size := Nat.le_trans hN g9.size); (have c9 := fun b o h => g9.cell (p := ⟨b, o, none⟩) h); (have f9 := fun b o h => g9.frozen (p := ⟨b, o, none⟩) h); (clear hw9 kr hN g9)
    go_wp2_with fail
    go_ret
    exact ⟨ret_bool (by first | (simp; done) | (simp; omega) | (simp; intros; omega) | simp [h1]), (by repeat (first | with_reducible exact Below.refl _ _ | with_reducible assumption | with_reducible refine below_drewN ?_ _ | with_reducible refine Below.drew ?_ | with_reducible refine Below.alloc ?_ (by first | exact Nat.le_refl _ | assumption | (simp; done) | omega | (simp at *; omega)) _ | with_reducible refine Below.setCell ?_ (by first | exact Nat.le_refl _ | assumption | (simp; done) | omega | (simp at *; omega)) _ | with_reducible refine Below.trans ?_ (Below.mono (by with_reducible assumption) (by first | exact Nat.le_refl _ | assumption | (simp; done) | omega | (simp at *; omega)))))⟩

set_option maxHeartbeats 400000 in
theorem rfail_over (f fi mo row wh now : Int) (w : World) (hr : f < row + 1) (hb : 0 ≤ row ∧ row ≤ 2000) :
    Calls Try.prog 12 #[.agg #[.int .i64 f, .int .i64 fi, .int .i64 mo, .int .i64 row, .int .i64 wh], .int .i64 now] w
      fun e w' => e = .returned (.tuple #[.agg #[.int .i64 f, .int .i64 fi, .int .i64 mo, .int .i64 (row + 1), .int .i64 wh], .int .i64 0, .bool false]) ∧ Below w.heap.size w w' := by
  have d1 : decide (f < row + 1) = true := by simpa using hr
  go_enter Try.func12, Try.ntmps12
  go_wp2_with fail
  refine (rover_any _ _ _ _ _ _).mono ?_; rintro e w1 ⟨rfl, h1⟩
  have g1 : Below (w.heap.size + 2) _ w1 := h1.mono (by simp)
  have c1 := fun b o h => g1.cell (p := ⟨b, o, none⟩) h
  have f1 := fun b o h => g1.frozen (p := ⟨b, o, none⟩) h
  have z1 := g1.size
  simp at z1
  clear h1
  go_wp2_with fail
  exact bodyPost_ret (v := .tuple #[.agg #[.int .i64 f, .int .i64 fi, .int .i64 mo, .int .i64 (row + 1), .int .i64 wh], .int .i64 0, .bool false]) (by simp [results, Try.results12, go_sem, c1]) rfl ⟨rfl, (by repeat (first | with_reducible exact Below.refl _ _ | with_reducible assumption | with_reducible refine below_drewN ?_ _ | with_reducible refine Below.drew ?_ | with_reducible refine Below.alloc ?_ (by first | exact Nat.le_refl _ | assumption | (simp; done) | omega | (simp at *; omega)) _ | with_reducible refine Below.setCell ?_ (by first | exact Nat.le_refl _ | assumption | (simp; done) | omega | (simp at *; omega)) _ | with_reducible refine Below.trans ?_ (Below.mono (by with_reducible assumption) (by first | exact Nat.le_refl _ | assumption | (simp; done) | omega | (simp at *; omega)))))⟩

set_option maxHeartbeats 1000000 in
theorem rfail_ok (f fi mo wh now : Int) (row : Nat) (w : World) (hr : (row : Int) + 1 ≤ f) (hb : f ≤ 1000) (hm : 1 ≤ fi ∧ fi ≤ mo ∧ mo ≤ 1099511627776) :
    Calls Try.prog 12 #[.agg #[.int .i64 f, .int .i64 fi, .int .i64 mo, .int .i64 row, .int .i64 wh], .int .i64 now] w
      fun e w' => e = .returned (.tuple #[.agg #[.int .i64 f, .int .i64 fi, .int .i64 mo, .int .i64 (row + 1), .int .i64 (tk now + rst fi mo row)], .int .i64 (tk now + rst fi mo row), .bool true]) ∧ Below w.heap.size w w' := by
  have d1 : decide (f < (row : Int) + 1) = false := by simp; omega
  have ht := tk_bd now
  have hs := rst_bd fi mo ⟨hm.1, hm.2.1⟩ row
  go_enter Try.func12, Try.ntmps12
  go_wp2_with fail
  refine (rover_any _ _ _ _ _ _).mono ?_; rintro e w1 ⟨rfl, h1⟩
  have g1 : Below (w.heap.size + 2) _ w1 := h1.mono (by simp)
  have c1 := fun b o h => g1.cell (p := ⟨b, o, none⟩) h
  have f1 := fun b o h => g1.frozen (p := ⟨b, o, none⟩) h
  have z1 : w.heap.size + 1 < w1.heap.size := by have := g1.size; simp at this; exact this
  have z1' : w.heap.size < w1.heap.size := by omega
  clear h1
  go_wp2_with fail
  have hw1 : IntKind.i64.wrap (tk now + rst fi mo row) = tk now + rst fi mo row := IntWalk.i64_in _ (by omega)
  (have hN : w.heap.size + 2 ≤ (World.heap w1).size := by first | assumption | exact Nat.le_refl _ | (simp; done) | omega | (simp; omega) | (simp at *; omega)); (have kr := fun d os b o (h : b < w.heap.size + 2) => (below_regrown w1 d os).cell (p := ⟨b, o, none⟩) (Nat.lt_of_lt_of_le h hN)); (refine wp_region_below_tail 8 (by kernel_rfl) (by kernel_rfl) ?_); (simp only [List.take_succ_cons, List.take_zero, List.drop_succ_cons, List.drop_zero]); (repeat (first | go_big_quiet_step ((first | (go_at_call 27; exact Calls.regrown_of (same_below (rtick_any _ _))) | (go_at_call 28; exact Calls.regrown_of (rrest_succ _ _ _ _ _ _ hm (by omega))))) | quiet_step ((first | (go_at_call 27; exact Calls.regrown_of (same_below (rtick_any _ _))) | (go_at_call 28; exact Calls.regrown_of (rrest_succ _ _ _ _ _ _ hm (by omega))))))); (refine wpQuiet_nil ?_); (intro w2 hw9); (obtain ⟨⟨dq, osq⟩, hw9⟩ := hw9); (have g9 := below_regrown w1 dq osq); (rw [← hw9] at g9); (have g2 : Below (w.heap.size + 2) _ w2 := g9.mono hN); (have z2 : w.heap.size + 2 ≤ w2.heap.size := Nat.le_trans hN g9.size); (have c2 := fun b o h => g2.cell (p := ⟨b, o, none⟩) h); (have f2 := fun b o h => g2.frozen (p := ⟨b, o, none⟩) h); (clear hw9 kr hN g9)
  go_wp2
  go_region
  all_goals go_wp2
  all_goals exact bodyPost_ret (v := .tuple #[.agg #[.int .i64 f, .int .i64 fi, .int .i64 mo, .int .i64 (row + 1), .int .i64 (tk now + rst fi mo row)], .int .i64 (tk now + rst fi mo row), .bool true]) (by simp [results, Try.results12, go_sem, c2, c1]) rfl ⟨rfl, (by repeat (first | with_reducible exact Below.refl _ _ | with_reducible assumption | with_reducible refine below_drewN ?_ _ | with_reducible refine Below.drew ?_ | with_reducible refine Below.alloc ?_ (by first | exact Nat.le_refl _ | assumption | (simp; done) | omega | (simp at *; omega)) _ | with_reducible refine Below.setCell ?_ (by first | exact Nat.le_refl _ | assumption | (simp; done) | omega | (simp at *; omega)) _ | with_reducible refine Below.trans ?_ (Below.mono (by with_reducible assumption) (by first | exact Nat.le_refl _ | assumption | (simp; done) | omega | (simp at *; omega)))))⟩
end Go.Proofs.Ytnkhlnnkjmjfcaa
