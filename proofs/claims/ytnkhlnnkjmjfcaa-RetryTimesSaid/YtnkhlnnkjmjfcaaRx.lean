/- More walks of package retry. -/
import Derived.Test.YtnkhlnnkjmjfcaaRw
namespace Go.Proofs.Ytnkhlnnkjmjfcaa
set_option linter.unusedVariables false
open Go.RowKit

set_option maxHeartbeats 400000 in
theorem fail_last (b : Nat) (f fi mo row rest nx now : Int) (w : World) (h : Tm w b f fi mo row rest nx) (hr : row = f) (hb : f ≤ 1000) (h0 : 0 ≤ row) :
    Calls Try.prog 11 #[.pointer (some ⟨b, 0, none⟩), .int .i64 now] w fun e w' => e = .returned (.tuple #[.int .i64 0, .bool false]) ∧ Tm w' b f fi mo (row + 1) rest nx ∧ Chg (Own b) w w' := by
  have H := Lib.hid h
  obtain ⟨c0, c1, c2, c3, c4, c5, fz⟩ := h
  subst hr
  have d2 : decide (row < row + 1) = true := by simp; omega
  go_enter Try.func11, Try.ntmps11
  go_wp2_with (first | (go_at_call 24; refine (over_any _ _ _ _ _ _ _ _ H.out).mono ?_; (rintro e w' ⟨rfl, n1, rfl⟩)))
  refine (over_any b row fi mo (row + 1) rest nx _ ⟨by go_simp, by go_simp, by go_simp, by go_simp, by go_simp, by go_simp, by go_simp⟩).mono ?_; rintro e w' ⟨rfl, n2, rfl⟩
  go_wp2
  go_ret2
  exact ⟨rfl, ⟨by go_simp, by go_simp, by go_simp, by go_simp, by go_simp, by go_simp, by go_simp⟩, (by repeat (first | with_reducible exact Chg.refl _ _ | with_reducible assumption | with_reducible refine Chg.drewN ?_ _ | with_reducible refine Chg.drew ?_ | with_reducible refine Chg.alloc ?_ _ | with_reducible refine Chg.setCell ?_ (by first | (left; rfl) | (right; exact Nat.le_refl _) | (right; simp; done) | (right; omega) | (right; simp at *; omega) | (simp at *; omega)) _ | with_reducible refine Chg.trans ?_ (by with_reducible assumption) (by intro i hi hT; first | exact hT | exact False.elim hT | omega | (simp at *; omega))))⟩

set_option maxHeartbeats 400000 in
theorem new_ok (f fi mo : Int) (w : World) (h : 0 ≤ f ∧ f ≤ 1000 ∧ 1 ≤ fi ∧ fi ≤ mo ∧ mo ≤ 1099511627776) :
    Calls Try.prog 9 #[.int .i64 f, .int .i64 fi, .int .i64 mo] w fun e w' => e = .returned (.tuple #[.pointer (some ⟨w.heap.size, 0, none⟩), .int .i64 0]) ∧ Tm w' w.heap.size f fi mo 0 fi 0 ∧ w.heap.size < w'.heap.size ∧ Chg (fun _ => False) w w' := by
  have r1 : isRest fi = true := by simp [isRest]; omega
  have r2 : isRest mo = true := by simp [isRest]; omega
  go_enter Try.func9, Try.ntmps9
  go_wp2_with (first | (go_at_call 23; refine (rest_any _ _).mono ?_; rintro e w' ⟨rfl, rfl⟩))
  go_ret2
  exact ⟨rfl, ⟨by go_simp, by go_simp, by go_simp, by go_simp, by go_simp, by go_simp, by go_simp⟩, by simp, (by repeat (first | with_reducible exact Chg.refl _ _ | with_reducible assumption | with_reducible refine Chg.drewN ?_ _ | with_reducible refine Chg.drew ?_ | with_reducible refine Chg.alloc ?_ _ | with_reducible refine Chg.setCell ?_ (by first | (left; rfl) | (right; exact Nat.le_refl _) | (right; simp; done) | (right; omega) | (right; simp at *; omega) | (simp at *; omega)) _ | with_reducible refine Chg.trans ?_ (by with_reducible assumption) (by intro i hi hT; first | exact hT | exact False.elim hT | omega | (simp at *; omega))))⟩

set_option maxHeartbeats 400000 in
theorem new_no (f fi mo : Int) (w : World) (h : ¬ (0 ≤ f ∧ f ≤ 1000 ∧ 1 ≤ fi ∧ fi ≤ mo ∧ mo ≤ 1099511627776)) :
    Calls Try.prog 9 #[.int .i64 f, .int .i64 fi, .int .i64 mo] w fun e w' => e = .returned (.tuple #[.pointer none, .int .i64 1]) ∧ w = w' := by
  by_cases h1 : f < 0
  · go_enter Try.func9, Try.ntmps9
    go_wp2
    go_ret2
    exact ⟨rfl, rfl⟩
  by_cases h2 : 1000 < f
  · go_enter Try.func9, Try.ntmps9
    go_wp2
    go_ret2
    exact ⟨rfl, rfl⟩
  have h1' : 0 ≤ f := by omega
  have h2' : f ≤ 1000 := by omega
  cases r1 : isRest fi
  · go_enter Try.func9, Try.ntmps9
    go_wp2_with (first | (go_at_call 23; refine (rest_any _ _).mono ?_; rintro e w' ⟨rfl, rfl⟩))
    go_ret2
    exact ⟨rfl, rfl⟩
  cases r2 : isRest mo
  · go_enter Try.func9, Try.ntmps9
    go_wp2_with (first | (go_at_call 23; refine (rest_any _ _).mono ?_; rintro e w' ⟨rfl, rfl⟩))
    go_ret2
    exact ⟨rfl, rfl⟩
  have h3 : mo < fi := by simp [isRest] at r1 r2; omega
  clear h
  go_enter Try.func9, Try.ntmps9
  go_wp2_with (first | (go_at_call 23; refine (rest_any _ _).mono ?_; rintro e w' ⟨rfl, rfl⟩))
  go_ret2
  exact ⟨rfl, rfl⟩

/-! nil -/
set_option maxHeartbeats 400000 in
theorem fail_nil (now : Int) (w : World) :
    Calls Try.prog 11 #[.pointer none, .int .i64 now] w fun e w' => e = .returned (.tuple #[.int .i64 0, .bool false]) ∧ w = w' := by
  go_enter Try.func11, Try.ntmps11
  go_wp2
  go_ret2
  exact ⟨rfl, rfl⟩
set_option maxHeartbeats 400000 in
theorem good_nil (w : World) :
    Calls Try.prog 13 #[.pointer none] w fun e w' => e = .returned (.tuple #[]) ∧ w = w' := by
  go_enter Try.func13, Try.ntmps13
  go_wp2
  go_end0
  exact ⟨rfl, rfl⟩
set_option maxHeartbeats 400000 in
theorem ready_nil (now : Int) (w : World) :
    Calls Try.prog 15 #[.pointer none, .int .i64 now] w (Quiet (.bool false) w) := by
  go_enter Try.func15, Try.ntmps15
  go_wp2_with fail
  go_quiet (fail)
  go_wp2
  go_ret
  exact ⟨rfl, _, rfl⟩
set_option maxHeartbeats 400000 in
theorem left_nil (w : World) :
    Calls Try.prog 17 #[.pointer none] w (Quiet (.int .i64 0) w) := by
  go_enter Try.func17, Try.ntmps17
  go_wp2
  go_ret
  exact ⟨rfl, 0, rfl⟩

/-! Fuses -/
structure Fz (w : World) (b : Nat) (f rest row un : Int) : Prop where
  c0 : w.cell? ⟨b, 0, none⟩ = some (.int .i64 f)
  c1 : w.cell? ⟨b, 1, none⟩ = some (.int .i64 rest)
  c2 : w.cell? ⟨b, 2, none⟩ = some (.int .i64 row)
  c3 : w.cell? ⟨b, 3, none⟩ = some (.int .i64 un)
  fz : ∀ o, w.frozen? ⟨b, o, none⟩ = false

theorem Fz.chg {S : Nat → Prop} {w w' : World} {b : Nat} {f rest row un : Int} (h : Fz w b f rest row un) (c : Chg S w w') (hn : ¬ S b) : Fz w' b f rest row un := by
  have hb := cell_lt h.c0
  exact ⟨(c.cell hb hn 0).trans h.c0, (c.cell hb hn 1).trans h.c1, (c.cell hb hn 2).trans h.c2, (c.cell hb hn 3).trans h.c3, fun o => (c.frozen hb hn o).trans (h.fz o)⟩
theorem Fz.drewN {w : World} {b : Nat} {f rest row un : Int} (h : Fz w b f rest row un) (n : Nat) : Fz (w.drewN n) b f rest row un := ⟨h.1, h.2, h.3, h.4, h.5⟩

set_option maxHeartbeats 400000 in
theorem newFuse_ok (f r : Int) (w : World) (h : 1 ≤ f ∧ f ≤ 1000 ∧ 1 ≤ r ∧ r ≤ 1099511627776) :
    Calls Try.prog 19 #[.int .i64 f, .int .i64 r] w fun e w' => e = .returned (.tuple #[.pointer (some ⟨w.heap.size, 0, none⟩), .int .i64 0]) ∧ Fz w' w.heap.size f r 0 0 ∧ w.heap.size < w'.heap.size ∧ Chg (fun _ => False) w w' := by
  have r1 : isRest r = true := by simp [isRest]; omega
  go_enter Try.func19, Try.ntmps19
  go_wp2_with (first | (go_at_call 23; refine (rest_any _ _).mono ?_; rintro e w' ⟨rfl, rfl⟩))
  go_ret2
  exact ⟨rfl, ⟨by go_simp, by go_simp, by go_simp, by go_simp, by go_simp⟩, by simp, (by repeat (first | with_reducible exact Chg.refl _ _ | with_reducible assumption | with_reducible refine Chg.drewN ?_ _ | with_reducible refine Chg.drew ?_ | with_reducible refine Chg.alloc ?_ _ | with_reducible refine Chg.setCell ?_ (by first | (left; rfl) | (right; exact Nat.le_refl _) | (right; simp; done) | (right; omega) | (right; simp at *; omega) | (simp at *; omega)) _ | with_reducible refine Chg.trans ?_ (by with_reducible assumption) (by intro i hi hT; first | exact hT | exact False.elim hT | omega | (simp at *; omega))))⟩

set_option maxHeartbeats 400000 in
theorem newFuse_no (f r : Int) (w : World) (h : ¬ (1 ≤ f ∧ f ≤ 1000 ∧ 1 ≤ r ∧ r ≤ 1099511627776)) :
    Calls Try.prog 19 #[.int .i64 f, .int .i64 r] w fun e w' => e = .returned (.tuple #[.pointer none, .int .i64 1]) ∧ w = w' := by
  by_cases h1 : f < 1
  · go_enter Try.func19, Try.ntmps19
    go_wp2
    go_ret2
    exact ⟨rfl, rfl⟩
  by_cases h2 : 1000 < f
  · go_enter Try.func19, Try.ntmps19
    go_wp2
    go_ret2
    exact ⟨rfl, rfl⟩
  have h1' : 1 ≤ f := by omega
  have h2' : f ≤ 1000 := by omega
  have r1 : isRest r = false := by simp [isRest]; omega
  clear h
  go_enter Try.func19, Try.ntmps19
  go_wp2_with (first | (go_at_call 23; refine (rest_any _ _).mono ?_; rintro e w' ⟨rfl, rfl⟩))
  go_ret2
  exact ⟨rfl, rfl⟩

set_option maxHeartbeats 400000 in
theorem may_any (b : Nat) (f rest row un now : Int) (w : World) (h : Fz w b f rest row un) :
    Calls Try.prog 22 #[.pointer (some ⟨b, 0, none⟩), .int .i64 now] w (Quiet (.bool (decide (un ≤ tk now))) w) := by
  obtain ⟨c0, c1, c2, c3, fz⟩ := h
  go_enter Try.func22, Try.ntmps22
  go_wp2_with fail
  go_quiet ((first | (go_at_call 25; exact quiet_same (tick_any _ _))))
  go_wp2
  go_ret
  exact ⟨rfl, _, rfl⟩
set_option maxHeartbeats 400000 in
theorem may_nil (now : Int) (w : World) :
    Calls Try.prog 22 #[.pointer none, .int .i64 now] w (Quiet (.bool false) w) := by
  go_enter Try.func22, Try.ntmps22
  go_wp2_with fail
  go_quiet (fail)
  go_wp2
  go_ret
  exact ⟨rfl, _, rfl⟩
set_option maxHeartbeats 400000 in
theorem tell_nil (now : Int) (x : Bool) (w : World) :
    Calls Try.prog 21 #[.pointer none, .int .i64 now, .bool x] w fun e w' => e = .returned (.tuple #[]) ∧ w = w' := by
  go_enter Try.func21, Try.ntmps21
  go_wp2
  go_end0
  exact ⟨rfl, rfl⟩
set_option maxHeartbeats 400000 in
theorem tell_good (b : Nat) (f rest row un now : Int) (w : World) (h : Fz w b f rest row un) :
    Calls Try.prog 21 #[.pointer (some ⟨b, 0, none⟩), .int .i64 now, .bool true] w fun e w' => e = .returned (.tuple #[]) ∧ Fz w' b f rest 0 0 ∧ Chg (Own b) w w' := by
  obtain ⟨c0, c1, c2, c3, fz⟩ := h
  go_enter Try.func21, Try.ntmps21
  go_wp2
  go_end0
  exact ⟨rfl, ⟨by go_simp, by go_simp, by go_simp, by go_simp, by go_simp⟩, (by repeat (first | with_reducible exact Chg.refl _ _ | with_reducible assumption | with_reducible refine Chg.drewN ?_ _ | with_reducible refine Chg.drew ?_ | with_reducible refine Chg.alloc ?_ _ | with_reducible refine Chg.setCell ?_ (by first | (left; rfl) | (right; exact Nat.le_refl _) | (right; simp; done) | (right; omega) | (right; simp at *; omega) | (simp at *; omega)) _ | with_reducible refine Chg.trans ?_ (by with_reducible assumption) (by intro i hi hT; first | exact hT | exact False.elim hT | omega | (simp at *; omega))))⟩
set_option maxHeartbeats 400000 in
theorem tell_more (b : Nat) (f rest row un now : Int) (w : World) (h : Fz w b f rest row un) (hf : 1 ≤ f ∧ f ≤ 1000) (hr : 0 ≤ row) (hA : row + 1 < f) (h1 : 1 ≤ rest ∧ rest ≤ 1099511627776) :
    Calls Try.prog 21 #[.pointer (some ⟨b, 0, none⟩), .int .i64 now, .bool false] w fun e w' => e = .returned (.tuple #[]) ∧ Fz w' b f rest (row + 1) un ∧ Chg (Own b) w w' := by
  obtain ⟨c0, c1, c2, c3, fz⟩ := h
  have ht := tk_bd now
  have hw0 : IntKind.i64.wrap (row + 1) = row + 1 := IntWalk.i64_in _ (by omega)
  have d : (row + 1 == f) = false := by simp; omega
  have hw1 : IntKind.i64.wrap (tk now + rest) = tk now + rest := IntWalk.i64_in _ (by omega)
  go_enter Try.func21, Try.ntmps21
  go_wp2
  go_region
  all_goals go_wp2
  all_goals go_quiet (fail)
  all_goals go_wp2
  all_goals go_end0
  all_goals exact ⟨rfl, ⟨by go_simp, by go_simp, by (go_simp; try omega), by go_simp, by go_simp⟩, (by repeat (first | with_reducible exact Chg.refl _ _ | with_reducible assumption | with_reducible refine Chg.drewN ?_ _ | with_reducible refine Chg.drew ?_ | with_reducible refine Chg.alloc ?_ _ | with_reducible refine Chg.setCell ?_ (by first | (left; rfl) | (right; exact Nat.le_refl _) | (right; simp; done) | (right; omega) | (right; simp at *; omega) | (simp at *; omega)) _ | with_reducible refine Chg.trans ?_ (by with_reducible assumption) (by intro i hi hT; first | exact hT | exact False.elim hT | omega | (simp at *; omega))))⟩

set_option maxHeartbeats 400000 in
theorem tell_blow (b : Nat) (f rest row un now : Int) (w : World) (h : Fz w b f rest row un) (hf : 1 ≤ f ∧ f ≤ 1000) (hr : 0 ≤ row) (hA : row + 1 = f) (h1 : 1 ≤ rest ∧ rest ≤ 1099511627776) :
    Calls Try.prog 21 #[.pointer (some ⟨b, 0, none⟩), .int .i64 now, .bool false] w fun e w' => e = .returned (.tuple #[]) ∧ Fz w' b f rest (row + 1) (tk now + rest) ∧ Chg (Own b) w w' := by
  obtain ⟨c0, c1, c2, c3, fz⟩ := h
  have ht := tk_bd now
  subst hA
  have hw0 : IntKind.i64.wrap (row + 1) = row + 1 := IntWalk.i64_in _ (by omega)
  have hw1 : IntKind.i64.wrap (tk now + rest) = tk now + rest := IntWalk.i64_in _ (by omega)
  go_enter Try.func21, Try.ntmps21
  go_wp2
  go_region
  all_goals go_wp2
  all_goals go_quiet (fail)
  all_goals go_wp2
  all_goals go_region_with (go_at_call 25; refine (tick_any _ _).mono ?_; rintro e w' ⟨rfl, rfl⟩)
  all_goals go_wp2
  all_goals go_end0
  all_goals exact ⟨rfl, ⟨by go_simp, by go_simp, by (go_simp; try omega), by go_simp, by go_simp⟩, (by repeat (first | with_reducible exact Chg.refl _ _ | with_reducible assumption | with_reducible refine Chg.drewN ?_ _ | with_reducible refine Chg.drew ?_ | with_reducible refine Chg.alloc ?_ _ | with_reducible refine Chg.setCell ?_ (by first | (left; rfl) | (right; exact Nat.le_refl _) | (right; simp; done) | (right; omega) | (right; simp at *; omega) | (simp at *; omega)) _ | with_reducible refine Chg.trans ?_ (by with_reducible assumption) (by intro i hi hT; first | exact hT | exact False.elim hT | omega | (simp at *; omega))))⟩

set_option maxHeartbeats 400000 in
theorem tell_again (b : Nat) (f rest row un now : Int) (w : World) (h : Fz w b f rest row un) (hf : 1 ≤ f ∧ f ≤ 1000) (hr : 0 ≤ row) (hA : row = f) (h1 : 1 ≤ rest ∧ rest ≤ 1099511627776) :
    Calls Try.prog 21 #[.pointer (some ⟨b, 0, none⟩), .int .i64 now, .bool false] w fun e w' => e = .returned (.tuple #[]) ∧ Fz w' b f rest row (tk now + rest) ∧ Chg (Own b) w w' := by
  obtain ⟨c0, c1, c2, c3, fz⟩ := h
  have ht := tk_bd now
  subst hA
  have hw0 : IntKind.i64.wrap (row + 1) = row + 1 := IntWalk.i64_in _ (by omega)
  have hw1 : IntKind.i64.wrap (tk now + rest) = tk now + rest := IntWalk.i64_in _ (by omega)
  go_enter Try.func21, Try.ntmps21
  go_wp2
  go_region
  all_goals go_wp2
  all_goals go_quiet (fail)
  all_goals go_wp2
  all_goals go_region_with (go_at_call 25; refine (tick_any _ _).mono ?_; rintro e w' ⟨rfl, rfl⟩)
  all_goals go_wp2
  all_goals go_end0
  all_goals exact ⟨rfl, ⟨by go_simp, by go_simp, by (go_simp; try omega), by go_simp, by go_simp⟩, (by repeat (first | with_reducible exact Chg.refl _ _ | with_reducible assumption | with_reducible refine Chg.drewN ?_ _ | with_reducible refine Chg.drew ?_ | with_reducible refine Chg.alloc ?_ _ | with_reducible refine Chg.setCell ?_ (by first | (left; rfl) | (right; exact Nat.le_refl _) | (right; simp; done) | (right; omega) | (right; simp at *; omega) | (simp at *; omega)) _ | with_reducible refine Chg.trans ?_ (by with_reducible assumption) (by intro i hi hT; first | exact hT | exact False.elim hT | omega | (simp at *; omega))))⟩

end Go.Proofs.Ytnkhlnnkjmjfcaa
