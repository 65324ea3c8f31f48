/- The walks of package retry: timers. -/
import Derived.Test.YtnkhlnnkjmjfcaaKit
namespace Go.Proofs.Ytnkhlnnkjmjfcaa
set_option linter.unusedVariables false
open Go.RowKit

def tk (n : Int) : Int := min (max n 0) 1099511627776
theorem tk_bd (n : Int) : 0 ≤ tk n ∧ tk n ≤ 1099511627776 := by unfold tk; omega

set_option maxHeartbeats 400000 in
theorem tick_any (n : Int) (w : World) :
    Calls Try.prog 25 #[.int .i64 n] w fun e w' => e = .returned (.int .i64 (tk n)) ∧ w = w' := by
  go_enter Try.func25, Try.ntmps25
  go_wp2
  all_goals go_ret
  all_goals exact ⟨ret_int (by simp [tk]; omega), rfl⟩

def isRest (n : Int) : Bool := decide (1 ≤ n ∧ n ≤ 1099511627776)
set_option maxHeartbeats 400000 in
theorem rest_any (n : Int) (w : World) :
    Calls Try.prog 23 #[.int .i64 n] w fun e w' => e = .returned (.bool (isRest n)) ∧ w = w' := by
  by_cases h1 : 1 ≤ n
  all_goals
    go_enter Try.func23, Try.ntmps23
    go_wp2
    go_ret
    exact ⟨ret_bool (by simp [isRest]; try omega), rfl⟩

/-- A timer at block b. -/
structure Tm (w : World) (b : Nat) (f fi mo row rest nx : Int) : Prop where
  c0 : w.cell? ⟨b, 0, none⟩ = some (.int .i64 f)
  c1 : w.cell? ⟨b, 1, none⟩ = some (.int .i64 fi)
  c2 : w.cell? ⟨b, 2, none⟩ = some (.int .i64 mo)
  c3 : w.cell? ⟨b, 3, none⟩ = some (.int .i64 row)
  c4 : w.cell? ⟨b, 4, none⟩ = some (.int .i64 rest)
  c5 : w.cell? ⟨b, 5, none⟩ = some (.int .i64 nx)
  fz : ∀ o, w.frozen? ⟨b, o, none⟩ = false

theorem Tm.chg {S : Nat → Prop} {w w' : World} {b : Nat} {f fi mo row rest nx : Int} (h : Tm w b f fi mo row rest nx) (c : Chg S w w') (hn : ¬ S b) : Tm w' b f fi mo row rest nx := by
  have hb := cell_lt h.c0
  exact ⟨(c.cell hb hn 0).trans h.c0, (c.cell hb hn 1).trans h.c1, (c.cell hb hn 2).trans h.c2, (c.cell hb hn 3).trans h.c3, (c.cell hb hn 4).trans h.c4, (c.cell hb hn 5).trans h.c5, fun o => (c.frozen hb hn o).trans (h.fz o)⟩
theorem Tm.drewN {w : World} {b : Nat} {f fi mo row rest nx : Int} (h : Tm w b f fi mo row rest nx) (n : Nat) : Tm (w.drewN n) b f fi mo row rest nx := ⟨h.1, h.2, h.3, h.4, h.5, h.6, h.7⟩

set_option maxHeartbeats 400000 in
theorem over_any (b : Nat) (f fi mo row rest nx : Int) (w : World) (h : Tm w b f fi mo row rest nx) :
    Calls Try.prog 24 #[.pointer (some ⟨b, 0, none⟩)] w (Quiet (.bool (decide (f < row))) w) := by
  obtain ⟨c0, c1, c2, c3, c4, c5, fz⟩ := h
  go_enter Try.func24, Try.ntmps24
  go_wp2
  go_quiet (fail)
  go_wp2
  go_ret
  exact ⟨rfl, _, rfl⟩

set_option maxHeartbeats 400000 in
theorem ready_any (b : Nat) (f fi mo row rest nx now : Int) (w : World) (h : Tm w b f fi mo row rest nx) :
    Calls Try.prog 15 #[.pointer (some ⟨b, 0, none⟩), .int .i64 now] w (Quiet (.bool (decide (row ≤ f ∧ nx ≤ tk now))) w) := by
  have H := Lib.hid h
  obtain ⟨c0, c1, c2, c3, c4, c5, fz⟩ := h
  by_cases h1 : f < row
  · have d1 : decide (f < row) = true := by simpa using h1
    go_enter Try.func15, Try.ntmps15
    go_wp2_with fail
    go_quiet ((first | (go_at_call 24; first | exact quiet_qa (over_any _ _ _ _ _ _ _ _ (H.out.drewN _)) | exact quiet_q (over_any _ _ _ _ _ _ _ _ (H.out.drewN _)))))
    go_wp2
    go_ret
    exact ⟨ret_bool (by simp; omega), _, rfl⟩
  · have d1 : decide (f < row) = false := by simpa using h1
    go_enter Try.func15, Try.ntmps15
    go_wp2_with fail
    go_quiet ((first | (go_at_call 24; first | exact quiet_qa (over_any _ _ _ _ _ _ _ _ (H.out.drewN _)) | exact quiet_q (over_any _ _ _ _ _ _ _ _ (H.out.drewN _))) | (go_at_call 25; exact quiet_same (tick_any _ _))))
    go_wp2
    go_ret
    exact ⟨ret_bool (by simp; omega), _, rfl⟩

set_option maxHeartbeats 400000 in
theorem left_any (b : Nat) (f fi mo row rest nx : Int) (w : World) (h : Tm w b f fi mo row rest nx) (hb : 0 ≤ f ∧ f ≤ 1000 ∧ 0 ≤ row ∧ row ≤ 1001) :
    Calls Try.prog 17 #[.pointer (some ⟨b, 0, none⟩)] w (Quiet (.int .i64 (max (f - row) 0)) w) := by
  obtain ⟨c0, c1, c2, c3, c4, c5, fz⟩ := h
  by_cases h1 : f < row
  all_goals
    go_enter Try.func17, Try.ntmps17
    go_wp2
    go_quiet (fail)
    go_wp2
    go_ret
    exact ⟨ret_int (by omega), _, rfl⟩

/-- Only block b, and what is new, has turned. -/
abbrev Own (b : Nat) : Nat → Prop := fun i => i = b

set_option maxHeartbeats 400000 in
theorem good_any (b : Nat) (f fi mo row rest nx : Int) (w : World) (h : Tm w b f fi mo row rest nx) :
    Calls Try.prog 13 #[.pointer (some ⟨b, 0, none⟩)] w fun e w' => e = .returned (.tuple #[]) ∧ Tm w' b f fi mo 0 fi 0 ∧ Chg (Own b) w w' := by
  obtain ⟨c0, c1, c2, c3, c4, c5, fz⟩ := h
  go_enter Try.func13, Try.ntmps13
  go_wp2
  go_end0
  exact ⟨rfl, ⟨by go_simp, by go_simp, by go_simp, by go_simp, by go_simp, by go_simp, by go_simp⟩, (by repeat (first | with_reducible exact Chg.refl _ _ | with_reducible assumption | with_reducible refine Chg.drewN ?_ _ | with_reducible refine Chg.drew ?_ | with_reducible refine Chg.alloc ?_ _ | with_reducible refine Chg.setCell ?_ (by first | (left; rfl) | (right; exact Nat.le_refl _) | (right; simp; done) | (right; omega) | (right; simp at *; omega) | (simp at *; omega)) _ | with_reducible refine Chg.trans ?_ (by with_reducible assumption) (by intro i hi hT; first | exact hT | exact False.elim hT | omega | (simp at *; omega))))⟩

set_option maxHeartbeats 400000 in
theorem fail_over (b : Nat) (f fi mo row rest nx now : Int) (w : World) (h : Tm w b f fi mo row rest nx) (hr : f < row) :
    Calls Try.prog 11 #[.pointer (some ⟨b, 0, none⟩), .int .i64 now] w (Quiet (.tuple #[.int .i64 0, .bool false]) w) := by
  have H := Lib.hid h
  obtain ⟨c0, c1, c2, c3, c4, c5, fz⟩ := h
  go_enter Try.func11, Try.ntmps11
  go_wp2_with (first | (go_at_call 24; refine (over_any _ _ _ _ _ _ _ _ H.out).mono ?_; (rintro e w' ⟨rfl, n1, rfl⟩)) | (go_at_call 24; refine (over_any _ _ _ _ _ _ _ _ (H.out.drewN _)).mono ?_; (rintro e w' ⟨rfl, n2, rfl⟩)))
  go_ret2
  exact ⟨rfl, _, rfl⟩

set_option maxHeartbeats 400000 in
theorem fail_ok (b : Nat) (f fi mo row rest nx now : Int) (w : World) (h : Tm w b f fi mo row rest nx) (hr : row < f) (hb : f ≤ 1000) (h0 : 0 ≤ row) (h1 : 1 ≤ rest ∧ rest ≤ 1099511627776) (h2 : 1 ≤ mo ∧ mo ≤ 1099511627776) :
    Calls Try.prog 11 #[.pointer (some ⟨b, 0, none⟩), .int .i64 now] w fun e w' => e = .returned (.tuple #[.int .i64 (tk now + rest), .bool true]) ∧ Tm w' b f fi mo (row + 1) (min (2 * rest) mo) (tk now + rest) ∧ Chg (Own b) w w' := by
  have H := Lib.hid h
  obtain ⟨c0, c1, c2, c3, c4, c5, fz⟩ := h
  have ht := tk_bd now
  have d1 : decide (f < row) = false := by simp; omega
  have d2 : decide (f < row + 1) = false := by simp; omega
  go_enter Try.func11, Try.ntmps11
  go_wp2_with (first | (go_at_call 24; refine (over_any _ _ _ _ _ _ _ _ H.out).mono ?_; (rintro e w' ⟨rfl, n1, rfl⟩)))
  refine (over_any b f fi mo (row + 1) rest nx _ ⟨by go_simp, by go_simp, by go_simp, by go_simp, by go_simp, by go_simp, by go_simp⟩).mono ?_; rintro e w' ⟨rfl, n2, rfl⟩
  go_wp2
  have hw1 : IntKind.i64.wrap (tk now + rest) = tk now + rest := IntWalk.i64_in _ (by omega)
  have hw2 : IntKind.i64.wrap (2 * rest) = 2 * rest := IntWalk.i64_in _ (by omega)
  go_region_with (go_at_call 25; refine (tick_any _ _).mono ?_; rintro e w' ⟨rfl, rfl⟩)
  all_goals go_wp2
  all_goals go_region
  all_goals go_wp2
  all_goals go_ret2
  all_goals exact ⟨rfl, ⟨by go_simp, by go_simp, by go_simp, by go_simp, by (go_simp; try omega), by go_simp, by go_simp⟩, (by repeat (first | with_reducible exact Chg.refl _ _ | with_reducible assumption | with_reducible refine Chg.drewN ?_ _ | with_reducible refine Chg.drew ?_ | with_reducible refine Chg.alloc ?_ _ | with_reducible refine Chg.setCell ?_ (by first | (left; rfl) | (right; exact Nat.le_refl _) | (right; simp; done) | (right; omega) | (right; simp at *; omega) | (simp at *; omega)) _ | with_reducible refine Chg.trans ?_ (by with_reducible assumption) (by intro i hi hT; first | exact hT | exact False.elim hT | omega | (simp at *; omega))))⟩
end Go.Proofs.Ytnkhlnnkjmjfcaa
