/- The walks of package fresh and of its reference: each function returns what the function of the same name computes, and changes nothing that was there. -/
import Derived.Test.YtdhekcfkngkebaaKit
namespace Go.Proofs.Ytdhekcfkngkebaa
open Go.RowKit

def tk (n : Int) : Int := min (max n 0) 1099511627776

theorem tk_bd (n : Int) : 0 ≤ tk n ∧ tk n ≤ 1099511627776 := by unfold tk; omega

def ageF (said now : Int) : Int := max (tk now - tk said) 0
def saidF (now age : Int) : Int := max (tk now - tk age) 0
theorem age_bd (a b : Int) : 0 ≤ ageF a b ∧ ageF a b ≤ 1099511627776 := by have := tk_bd a; have := tk_bd b; unfold ageF; omega
def stateF (f wh er said now : Int) : Int :=
  if ageF said now < tk f then 1 else if ageF said now < tk f + tk wh then 2 else if ageF said now < tk f + tk er then 3 else 4
def untilF (f wh er said st : Int) : Int :=
  if st = 1 then tk said + tk f else if st = 2 then tk said + tk f + tk wh else if st = 3 then tk said + tk f + max (tk wh) (tk er) else 0
def coversF (f wh er said asked st : Int) : Bool :=
  if st < 1 ∨ 3 < st then false else decide (tk asked ≤ tk said ∨ stateF f wh er said asked ≤ st)

set_option maxHeartbeats 400000 in
theorem tick_any (n : Int) (w : World) :
    Calls Try.prog 24 #[.int .i64 n] w fun e w' => e = .returned (.int .i64 (tk n)) ∧ w = w' := by
  go_enter Try.func24, Try.ntmps24
  go_wp2
  all_goals go_ret
  all_goals exact ⟨ret_int (by simp [tk]; omega), rfl⟩

set_option maxHeartbeats 400000 in
theorem age_any (a b : Int) (w : World) :
    Calls Try.prog 18 #[.int .i64 a, .int .i64 b] w fun e w' => e = .returned (.int .i64 (ageF a b)) ∧ w = w' := by
  have ha := tk_bd a
  have hb := tk_bd b
  go_enter Try.func18, Try.ntmps18
  go_wp2_with (go_at_call 24; refine (tick_any _ _).mono ?_; rintro e w' ⟨rfl, rfl⟩)
  all_goals go_ret
  all_goals exact ⟨ret_int (by simp [ageF]; omega), rfl⟩

set_option maxHeartbeats 400000 in
theorem said_any (a b : Int) (w : World) :
    Calls Try.prog 20 #[.int .i64 a, .int .i64 b] w fun e w' => e = .returned (.int .i64 (saidF a b)) ∧ w = w' := by
  have ha := tk_bd a
  have hb := tk_bd b
  go_enter Try.func20, Try.ntmps20
  go_wp2_with (go_at_call 24; refine (tick_any _ _).mono ?_; rintro e w' ⟨rfl, rfl⟩)
  all_goals go_ret
  all_goals exact ⟨ret_int (by simp [saidF]; omega), rfl⟩

set_option maxHeartbeats 400000 in
theorem state_any (v0 v1 v2 v3 v4 : Value) (f wh er : Int) (v8 v9 v10 : Value) (a b : Int) (w : World) :
    Calls Try.prog 15 #[.agg #[v0, v1, v2, v3, v4, .int .i64 f, .int .i64 wh, .int .i64 er, v8, v9, v10], .int .i64 a, .int .i64 b] w
      fun e w' => e = .returned (.int .i64 (stateF f wh er a b)) ∧ Below w.heap.size w w' := by
  have ha := age_bd a b
  have hf := tk_bd f
  have hw := tk_bd wh
  have he := tk_bd er
  go_enter Try.func15, Try.ntmps15
  go_wp2_with (first
    | (go_at_call 24; refine (tick_any _ _).mono ?_; rintro e w' ⟨rfl, rfl⟩)
    | (go_at_call 18; refine (age_any _ _ _).mono ?_; rintro e w' ⟨rfl, rfl⟩))
  all_goals go_ret
  all_goals exact ⟨ret_int (by simp [stateF]; omega), (Below.refl _ _).alloc (Nat.le_refl _) _⟩

set_option maxHeartbeats 400000 in
theorem until_any (v0 v1 v2 v3 v4 : Value) (f wh er : Int) (v8 v9 v10 : Value) (a b : Int) (w : World) :
    Calls Try.prog 11 #[.agg #[v0, v1, v2, v3, v4, .int .i64 f, .int .i64 wh, .int .i64 er, v8, v9, v10], .int .i64 a, .int .i64 b] w
      fun e w' => e = .returned (.int .i64 (untilF f wh er a b)) ∧ Below w.heap.size w w' := by
  have ha := tk_bd a
  have hf := tk_bd f
  have hw := tk_bd wh
  have he := tk_bd er
  have e1 : (b == 1) = true ∨ (b == 1) = false := by cases (b == 1) <;> simp
  have e2 : (b == 2) = true ∨ (b == 2) = false := by cases (b == 2) <;> simp
  have e3 : (b == 3) = true ∨ (b == 3) = false := by cases (b == 3) <;> simp
  have m : max (tk wh) (tk er) = tk wh ∧ tk er ≤ tk wh ∨ max (tk wh) (tk er) = tk er ∧ tk wh < tk er := by omega
  rcases e1 with e1 | e1
  · obtain rfl : b = 1 := by simpa using e1
    go_enter Try.func11, Try.ntmps11
    go_wp2_with fail
    go_quiet ((go_at_call 24; first | exact quiet_add (tick_any _ _) | exact quiet_same (tick_any _ _)))
    go_wp2_with (go_at_call 24; refine (tick_any _ _).mono ?_; rintro e w' ⟨rfl, rfl⟩)
    all_goals go_ret
    all_goals exact ⟨ret_int (by simp [untilF]), (by repeat (first | exact Below.refl _ _ | assumption | refine below_drewN ?_ _ | refine Below.drew ?_ | refine Below.alloc ?_ (by first | exact Nat.le_refl _ | (simp; done) | (simp at *; omega)) _ | refine Below.setCell ?_ (by first | exact Nat.le_refl _ | (simp; done) | (simp at *; omega)) _ | refine Below.trans ?_ (Below.mono (by assumption) (by first | exact Nat.le_refl _ | (simp; done) | (simp at *; omega)))))⟩
  rcases e2 with e2 | e2
  · obtain rfl : b = 2 := by simpa using e2
    go_enter Try.func11, Try.ntmps11
    go_wp2_with fail
    go_quiet ((go_at_call 24; first | exact quiet_add (tick_any _ _) | exact quiet_same (tick_any _ _)))
    go_wp2_with (go_at_call 24; refine (tick_any _ _).mono ?_; rintro e w' ⟨rfl, rfl⟩)
    all_goals go_ret
    all_goals exact ⟨ret_int (by simp [untilF]), (by repeat (first | exact Below.refl _ _ | assumption | refine below_drewN ?_ _ | refine Below.drew ?_ | refine Below.alloc ?_ (by first | exact Nat.le_refl _ | (simp; done) | (simp at *; omega)) _ | refine Below.setCell ?_ (by first | exact Nat.le_refl _ | (simp; done) | (simp at *; omega)) _ | refine Below.trans ?_ (Below.mono (by assumption) (by first | exact Nat.le_refl _ | (simp; done) | (simp at *; omega)))))⟩
  rcases e3 with e3 | e3
  · obtain rfl : b = 3 := by simpa using e3
    go_enter Try.func11, Try.ntmps11
    go_wp2_with fail
    go_quiet ((go_at_call 24; first | exact quiet_add (tick_any _ _) | exact quiet_same (tick_any _ _)))
    go_wp2_with fail
    go_quiet ((go_at_call 24; first | exact quiet_add (tick_any _ _) | exact quiet_same (tick_any _ _)))
    go_wp2_with (go_at_call 24; refine (tick_any _ _).mono ?_; rintro e w' ⟨rfl, rfl⟩)
    all_goals go_ret
    all_goals exact ⟨ret_int (by simp [untilF]; omega), (by repeat (first | exact Below.refl _ _ | assumption | refine below_drewN ?_ _ | refine Below.drew ?_ | refine Below.alloc ?_ (by first | exact Nat.le_refl _ | (simp; done) | (simp at *; omega)) _ | refine Below.setCell ?_ (by first | exact Nat.le_refl _ | (simp; done) | (simp at *; omega)) _ | refine Below.trans ?_ (Below.mono (by assumption) (by first | exact Nat.le_refl _ | (simp; done) | (simp at *; omega)))))⟩
  · clear m
    go_enter Try.func11, Try.ntmps11
    go_wp2_with fail
    go_quiet ((go_at_call 24; first | exact quiet_add (tick_any _ _) | exact quiet_same (tick_any _ _)))
    go_wp2
    all_goals go_ret
    all_goals exact ⟨ret_int (by simp at e1 e2 e3; simp [untilF, e1, e2, e3]), (by repeat (first | exact Below.refl _ _ | assumption | refine below_drewN ?_ _ | refine Below.drew ?_ | refine Below.alloc ?_ (by first | exact Nat.le_refl _ | (simp; done) | (simp at *; omega)) _ | refine Below.setCell ?_ (by first | exact Nat.le_refl _ | (simp; done) | (simp at *; omega)) _ | refine Below.trans ?_ (Below.mono (by assumption) (by first | exact Nat.le_refl _ | (simp; done) | (simp at *; omega)))))⟩

set_option maxHeartbeats 400000 in
theorem covers_any (v0 v1 v2 v3 v4 : Value) (f wh er : Int) (v8 v9 v10 : Value) (a b st : Int) (w : World) :
    Calls Try.prog 22 #[.agg #[v0, v1, v2, v3, v4, .int .i64 f, .int .i64 wh, .int .i64 er, v8, v9, v10], .int .i64 a, .int .i64 b, .int .i64 st] w
      fun e w' => e = .returned (.bool (coversF f wh er a b st)) ∧ Below w.heap.size w w' := by
  have ha := tk_bd a
  have hb := tk_bd b
  by_cases h1 : st < 1
  · go_enter Try.func22, Try.ntmps22
    go_wp2
    all_goals go_ret
    exact ⟨ret_bool (by simp [coversF, h1]), (Below.refl _ _).alloc (Nat.le_refl _) _⟩
  by_cases h3 : 3 < st
  · go_enter Try.func22, Try.ntmps22
    go_wp2
    all_goals go_ret
    exact ⟨ret_bool (by simp [coversF, h3]), (Below.refl _ _).alloc (Nat.le_refl _) _⟩
  by_cases hc : tk b ≤ tk a
  · go_enter Try.func22, Try.ntmps22
    go_wp2_with (go_at_call 24; refine (tick_any _ _).mono ?_; rintro e w' ⟨rfl, rfl⟩)
    all_goals go_ret
    exact ⟨ret_bool (by simp [coversF, h1, h3, hc]), (Below.refl _ _).alloc (Nat.le_refl _) _⟩
  · go_enter Try.func22, Try.ntmps22
    go_wp2_with (first
      | (go_at_call 24; refine (tick_any _ _).mono ?_; rintro e w' ⟨rfl, rfl⟩)
      | (go_at_call 15; refine (state_any _ _ _ _ _ _ _ _ _ _ _ _ _ _).mono ?_; rintro e w' ⟨rfl, hb⟩))
    all_goals go_ret
    exact ⟨ret_bool (by simp [coversF, h1, h3]; try omega), ((Below.refl _ _).alloc (Nat.le_refl _) _).trans (hb.mono (by simp))⟩

/-! The reference -/

theorem most_any (w : World) :
    Calls Try.prog 14 #[] w fun e w' => e = .returned (.int .i64 1099511627776) ∧ w = w' := by
  go_enter Try.func14, Try.ntmps14
  go_wp2
  go_ret
  exact ⟨rfl, rfl⟩

set_option maxHeartbeats 400000 in
theorem held_any (n : Int) (w : World) :
    Calls Try.prog 16 #[.int .i64 n] w fun e w' => e = .returned (.int .i64 (tk n)) ∧ w = w' := by
  go_enter Try.func16, Try.ntmps16
  go_wp2_with (go_at_call 14; refine (most_any _).mono ?_; rintro e w' ⟨rfl, rfl⟩)
  all_goals go_ret
  all_goals exact ⟨ret_int (by simp [tk]; omega), rfl⟩

set_option maxHeartbeats 400000 in
theorem rage_any (a b : Int) (w : World) :
    Calls Try.prog 19 #[.int .i64 a, .int .i64 b] w fun e w' => e = .returned (.int .i64 (ageF a b)) ∧ w = w' := by
  have ha := tk_bd a
  have hb := tk_bd b
  go_enter Try.func19, Try.ntmps19
  go_wp2_with (go_at_call 16; refine (held_any _ _).mono ?_; rintro e w' ⟨rfl, rfl⟩)
  all_goals go_ret
  all_goals exact ⟨ret_int (by simp [ageF]; omega), rfl⟩

set_option maxHeartbeats 400000 in
theorem rsaid_any (a b : Int) (w : World) :
    Calls Try.prog 21 #[.int .i64 a, .int .i64 b] w fun e w' => e = .returned (.int .i64 (saidF a b)) ∧ w = w' := by
  have ha := tk_bd a
  have hb := tk_bd b
  go_enter Try.func21, Try.ntmps21
  go_wp2_with (go_at_call 16; refine (held_any _ _).mono ?_; rintro e w' ⟨rfl, rfl⟩)
  all_goals go_ret
  all_goals exact ⟨ret_int (by simp [saidF]; omega), rfl⟩

set_option maxHeartbeats 400000 in
theorem rstate_any (v0 v1 v2 v3 v4 : Value) (f wh er : Int) (v8 v9 v10 : Value) (a b : Int) (w : World) :
    Calls Try.prog 17 #[.agg #[v0, v1, v2, v3, v4, .int .i64 f, .int .i64 wh, .int .i64 er, v8, v9, v10], .int .i64 a, .int .i64 b] w
      fun e w' => e = .returned (.int .i64 (stateF f wh er a b)) ∧ Below w.heap.size w w' := by
  have ha := age_bd a b
  have hf := tk_bd f
  have hw := tk_bd wh
  have he := tk_bd er
  by_cases h1 : ageF a b < tk f
  · go_enter Try.func17, Try.ntmps17
    go_wp2_with (first
      | (go_at_call 16; refine (held_any _ _).mono ?_; rintro e w' ⟨rfl, rfl⟩)
      | (go_at_call 19; refine (rage_any _ _ _).mono ?_; rintro e w' ⟨rfl, rfl⟩))
    go_ret
    exact ⟨ret_int (by simp [stateF]; omega), (Below.refl _ _).alloc (Nat.le_refl _) _⟩
  · by_cases h2 : ageF a b < tk f + tk wh
    all_goals
      go_enter Try.func17, Try.ntmps17
      go_wp2_with (first
        | (go_at_call 16; refine (held_any _ _).mono ?_; rintro e w' ⟨rfl, rfl⟩)
        | (go_at_call 19; refine (rage_any _ _ _).mono ?_; rintro e w' ⟨rfl, rfl⟩))
      go_quiet ((go_at_call 16; first | exact quiet_add (held_any _ _) | exact quiet_same (held_any _ _)))
      go_wp2_with fail
      try (go_quiet ((go_at_call 16; first | exact quiet_add (held_any _ _) | exact quiet_same (held_any _ _))); go_wp2_with fail)
      all_goals go_ret
      all_goals exact ⟨ret_int (by simp [stateF]; omega), (by repeat (first | exact Below.refl _ _ | assumption | refine below_drewN ?_ _ | refine Below.drew ?_ | refine Below.alloc ?_ (by first | exact Nat.le_refl _ | (simp; done) | (simp at *; omega)) _ | refine Below.setCell ?_ (by first | exact Nat.le_refl _ | (simp; done) | (simp at *; omega)) _ | refine Below.trans ?_ (Below.mono (by assumption) (by first | exact Nat.le_refl _ | (simp; done) | (simp at *; omega)))))⟩

set_option maxHeartbeats 400000 in
theorem runtil_any (v0 v1 v2 v3 v4 : Value) (f wh er : Int) (v8 v9 v10 : Value) (a b : Int) (w : World) :
    Calls Try.prog 13 #[.agg #[v0, v1, v2, v3, v4, .int .i64 f, .int .i64 wh, .int .i64 er, v8, v9, v10], .int .i64 a, .int .i64 b] w
      fun e w' => e = .returned (.int .i64 (untilF f wh er a b)) ∧ Below w.heap.size w w' := by
  have ha := tk_bd a
  have hf := tk_bd f
  have hw := tk_bd wh
  have he := tk_bd er
  have e1 : (b == 1) = true ∨ (b == 1) = false := by cases (b == 1) <;> simp
  have e2 : (b == 2) = true ∨ (b == 2) = false := by cases (b == 2) <;> simp
  have e3 : (b == 3) = true ∨ (b == 3) = false := by cases (b == 3) <;> simp
  rcases e1 with e1 | e1
  · obtain rfl : b = 1 := by simpa using e1
    go_enter Try.func13, Try.ntmps13
    go_wp2_with fail
    go_quiet ((go_at_call 16; first | exact quiet_add (held_any _ _) | exact quiet_same (held_any _ _)))
    go_wp2_with (go_at_call 16; refine (held_any _ _).mono ?_; rintro e w' ⟨rfl, rfl⟩)
    go_ret
    exact ⟨ret_int (by simp [untilF]), (by repeat (first | exact Below.refl _ _ | assumption | refine below_drewN ?_ _ | refine Below.drew ?_ | refine Below.alloc ?_ (by first | exact Nat.le_refl _ | (simp; done) | (simp at *; omega)) _ | refine Below.setCell ?_ (by first | exact Nat.le_refl _ | (simp; done) | (simp at *; omega)) _ | refine Below.trans ?_ (Below.mono (by assumption) (by first | exact Nat.le_refl _ | (simp; done) | (simp at *; omega)))))⟩
  rcases e2 with e2 | e2
  · obtain rfl : b = 2 := by simpa using e2
    go_enter Try.func13, Try.ntmps13
    go_wp2_with fail
    go_quiet ((go_at_call 16; first | exact quiet_add (held_any _ _) | exact quiet_same (held_any _ _)))
    go_wp2_with (go_at_call 16; refine (held_any _ _).mono ?_; rintro e w' ⟨rfl, rfl⟩)
    go_ret
    exact ⟨ret_int (by simp [untilF]), (by repeat (first | exact Below.refl _ _ | assumption | refine below_drewN ?_ _ | refine Below.drew ?_ | refine Below.alloc ?_ (by first | exact Nat.le_refl _ | (simp; done) | (simp at *; omega)) _ | refine Below.setCell ?_ (by first | exact Nat.le_refl _ | (simp; done) | (simp at *; omega)) _ | refine Below.trans ?_ (Below.mono (by assumption) (by first | exact Nat.le_refl _ | (simp; done) | (simp at *; omega)))))⟩
  rcases e3 with e3 | e3
  · obtain rfl : b = 3 := by simpa using e3
    go_enter Try.func13, Try.ntmps13
    go_wp2_with fail
    go_quiet ((go_at_call 16; first | exact quiet_add (held_any _ _) | exact quiet_same (held_any _ _)))
    go_wp2_with (go_at_call 16; refine (held_any _ _).mono ?_; rintro e w' ⟨rfl, rfl⟩)
    all_goals go_ret
    all_goals exact ⟨ret_int (by simp [untilF]; omega), (by repeat (first | exact Below.refl _ _ | assumption | refine below_drewN ?_ _ | refine Below.drew ?_ | refine Below.alloc ?_ (by first | exact Nat.le_refl _ | (simp; done) | (simp at *; omega)) _ | refine Below.setCell ?_ (by first | exact Nat.le_refl _ | (simp; done) | (simp at *; omega)) _ | refine Below.trans ?_ (Below.mono (by assumption) (by first | exact Nat.le_refl _ | (simp; done) | (simp at *; omega)))))⟩
  · go_enter Try.func13, Try.ntmps13
    go_wp2_with fail
    go_quiet ((go_at_call 16; first | exact quiet_add (held_any _ _) | exact quiet_same (held_any _ _)))
    go_wp2_with (go_at_call 16; refine (held_any _ _).mono ?_; rintro e w' ⟨rfl, rfl⟩)
    all_goals go_ret
    all_goals exact ⟨ret_int (by simp at e1 e2 e3; simp [untilF, e1, e2, e3]), (by repeat (first | exact Below.refl _ _ | assumption | refine below_drewN ?_ _ | refine Below.drew ?_ | refine Below.alloc ?_ (by first | exact Nat.le_refl _ | (simp; done) | (simp at *; omega)) _ | refine Below.setCell ?_ (by first | exact Nat.le_refl _ | (simp; done) | (simp at *; omega)) _ | refine Below.trans ?_ (Below.mono (by assumption) (by first | exact Nat.le_refl _ | (simp; done) | (simp at *; omega)))))⟩

set_option maxHeartbeats 400000 in
theorem rcovers_any (v0 v1 v2 v3 v4 : Value) (f wh er : Int) (v8 v9 v10 : Value) (a b st : Int) (w : World) :
    Calls Try.prog 23 #[.agg #[v0, v1, v2, v3, v4, .int .i64 f, .int .i64 wh, .int .i64 er, v8, v9, v10], .int .i64 a, .int .i64 b, .int .i64 st] w
      fun e w' => e = .returned (.bool (coversF f wh er a b st)) ∧ Below w.heap.size w w' := by
  have ha := tk_bd a
  have hb := tk_bd b
  by_cases h1 : st < 1
  · go_enter Try.func23, Try.ntmps23
    go_wp2
    all_goals go_ret
    exact ⟨ret_bool (by simp [coversF, h1]), (Below.refl _ _).alloc (Nat.le_refl _) _⟩
  by_cases h3 : 3 < st
  · go_enter Try.func23, Try.ntmps23
    go_wp2
    all_goals go_ret
    exact ⟨ret_bool (by simp [coversF, h3]), (Below.refl _ _).alloc (Nat.le_refl _) _⟩
  by_cases hc : tk b ≤ tk a
  · go_enter Try.func23, Try.ntmps23
    go_wp2_with (go_at_call 16; refine (held_any _ _).mono ?_; rintro e w' ⟨rfl, rfl⟩)
    all_goals go_ret
    exact ⟨ret_bool (by simp [coversF, h1, h3, hc]), (Below.refl _ _).alloc (Nat.le_refl _) _⟩
  · go_enter Try.func23, Try.ntmps23
    go_wp2_with (first
      | (go_at_call 16; refine (held_any _ _).mono ?_; rintro e w' ⟨rfl, rfl⟩)
      | (go_at_call 17; refine (rstate_any _ _ _ _ _ _ _ _ _ _ _ _ _ _).mono ?_; rintro e w' ⟨rfl, hb⟩))
    all_goals go_ret
    exact ⟨ret_bool (by simp [coversF, h1, h3]; try omega), ((Below.refl _ _).alloc (Nat.le_refl _) _).trans (hb.mono (by simp))⟩

/-! The law's own helpers -/
set_option maxHeartbeats 400000 in
theorem of_any (f wh er : Int) (w : World) :
    Calls Try.prog 12 #[.agg #[.int .i64 f, .int .i64 wh, .int .i64 er]] w
      fun e w' => e = .returned (.agg #[.string ⟨#[]⟩, .bool false, .int .i64 0, .int .i64 0, .int .i64 0, .int .i64 f, .int .i64 wh, .int .i64 er, .slice none 0 0, .string ⟨#[]⟩, .bool false]) ∧ Below w.heap.size w w' := by
  go_enter Try.func12, Try.ntmps12
  go_wp2
  exact bodyPost_ret (v := .agg #[.string ⟨#[]⟩, .bool false, .int .i64 0, .int .i64 0, .int .i64 0, .int .i64 f, .int .i64 wh, .int .i64 er, .slice none 0 0, .string ⟨#[]⟩, .bool false]) (by simp [results, Try.results12, go_sem]) rfl ⟨rfl, (by repeat (first | exact Below.refl _ _ | assumption | refine below_drewN ?_ _ | refine Below.drew ?_ | refine Below.alloc ?_ (by first | exact Nat.le_refl _ | (simp; done) | (simp at *; omega)) _ | refine Below.setCell ?_ (by first | exact Nat.le_refl _ | (simp; done) | (simp at *; omega)) _ | refine Below.trans ?_ (Below.mono (by assumption) (by first | exact Nat.le_refl _ | (simp; done) | (simp at *; omega)))))⟩
end Go.Proofs.Ytdhekcfkngkebaa
