/- The statements of package fresh: what the Go text of each law returns. -/
import Derived.Test.YtdhekcfkngkebaaFw
import Derived.Deep.RegionHeld3
namespace Go.Proofs.Ytdhekcfkngkebaa
open Go.RowKit

set_option maxHeartbeats 400000 in
theorem wakes_any (w : World) :
    Calls Try.prog 10 #[] w fun e w' => e = .returned (.bool true) ∧ Below w.heap.size w w' := by
  have s1 : stateF 5 3 10 100 104 = 1 := by decide
  have s2 : stateF 5 3 10 100 105 = 2 := by decide
  have s3 : stateF 5 3 10 100 108 = 3 := by decide
  have s4 : stateF 5 3 10 100 115 = 4 := by decide
  have s5 : untilF 5 3 10 100 3 = 115 := by decide
  go_enter Try.func10, Try.ntmps10
  go_wp2_with fail
  refine (state_any _ _ _ _ _ _ _ _ _ _ _ _ _ _).mono ?_; rintro e w1 ⟨rfl, h1⟩
  have g1 : Below (w.heap.size + 1) _ w1 := h1.mono (by simp)
  clear h1
  have c1 := fun b o h => g1.cell (p := ⟨b, o, none⟩) h
  have f1 := fun b o h => g1.frozen (p := ⟨b, o, none⟩) h
  go_wp2_with fail
  refine (state_any _ _ _ _ _ _ _ _ _ _ _ _ _ _).mono ?_; rintro e w2 ⟨rfl, h2⟩
  have g2 : Below (w.heap.size + 1) _ w2 := g1.trans (h2.mono (by have := g1.size; simp at this; exact this))
  clear h2; clear c1 f1
  have c2 := fun b o h => g2.cell (p := ⟨b, o, none⟩) h
  have f2 := fun b o h => g2.frozen (p := ⟨b, o, none⟩) h
  go_wp2_with fail
  refine (state_any _ _ _ _ _ _ _ _ _ _ _ _ _ _).mono ?_; rintro e w3 ⟨rfl, h3⟩
  have g3 : Below (w.heap.size + 1) _ w3 := g2.trans (h3.mono (by have := g2.size; simp at this; exact this))
  clear h3; clear c2 f2
  have c3 := fun b o h => g3.cell (p := ⟨b, o, none⟩) h
  have f3 := fun b o h => g3.frozen (p := ⟨b, o, none⟩) h
  go_wp2_with fail
  refine (state_any _ _ _ _ _ _ _ _ _ _ _ _ _ _).mono ?_; rintro e w4 ⟨rfl, h4⟩
  have g4 : Below (w.heap.size + 1) _ w4 := g3.trans (h4.mono (by have := g3.size; simp at this; exact this))
  clear h4; clear c3 f3
  have c4 := fun b o h => g4.cell (p := ⟨b, o, none⟩) h
  have f4 := fun b o h => g4.frozen (p := ⟨b, o, none⟩) h
  go_wp2_with fail
  refine (until_any _ _ _ _ _ _ _ _ _ _ _ _ _ _).mono ?_; rintro e w5 ⟨rfl, h5⟩
  have g5 : Below (w.heap.size + 1) _ w5 := g4.trans (h5.mono (by have := g4.size; simp at this; exact this))
  clear h5; clear c4 f4
  go_wp2_with fail
  go_ret
  exact ⟨ret_bool (by simp), (by repeat (first | exact Below.refl _ _ | assumption | refine below_drewN ?_ _ | refine Below.drew ?_ | refine Below.alloc ?_ (by first | exact Nat.le_refl _ | (simp; done) | (simp at *; omega)) _ | refine Below.setCell ?_ (by first | exact Nat.le_refl _ | (simp; done) | (simp at *; omega)) _ | refine Below.trans ?_ (Below.mono (by assumption) (by first | exact Nat.le_refl _ | (simp; done) | (simp at *; omega)))))⟩

set_option maxHeartbeats 1000000 in
theorem freshUntil_any (f wh er a b : Int) (w : World) :
    Calls Try.prog 3 #[.agg #[.int .i64 f, .int .i64 wh, .int .i64 er], .int .i64 a, .int .i64 b] w fun e w' => e = .returned (.bool true) ∧ Below w.heap.size w w' := by
  go_enter Try.func3, Try.ntmps3
  go_wp2_with fail
  refine (wakes_any _).mono ?_; rintro e w1 ⟨rfl, h1⟩
  have g1 : Below (w.heap.size + 1) _ w1 := h1.mono (by simp)
  have c1 := fun b o h => g1.cell (p := ⟨b, o, none⟩) h
  have f1 := fun b o h => g1.frozen (p := ⟨b, o, none⟩) h
  have hB := g1.size
  simp at hB
  go_wp2_with fail
  go_region_held3 (fun w' => Below (w.heap.size + 1) w1 w' ∧ ∀ b o, b < w.heap.size + 1 → w'.cell? ⟨b, o, none⟩ = World.cell? w1 ⟨b, o, none⟩) (first | exact held_first | assumption) (first
    | (go_at_call 12; refine (of_any _ _ _ _).mono ?_; rintro e wh ⟨rfl, hh⟩; have hs := held_step (B := w.heap.size + 1) (w0 := w1) (by first | assumption | exact held_refl | exact held_drewN _) hh (by assumption))
    | (go_at_call 11; refine (until_any _ _ _ _ _ _ _ _ _ _ _ _ _ _).mono ?_; rintro e wh ⟨rfl, hh⟩; have hs := held_step (B := w.heap.size + 1) (w0 := w1) (by first | assumption | exact held_refl | exact held_drewN _) hh (by assumption))
    | (go_at_call 13; refine (runtil_any _ _ _ _ _ _ _ _ _ _ _ _ _ _).mono ?_; rintro e wh ⟨rfl, hh⟩; have hs := held_step (B := w.heap.size + 1) (w0 := w1) (by first | assumption | exact held_refl | exact held_drewN _) hh (by assumption))
    | (go_at_call 15; refine (state_any _ _ _ _ _ _ _ _ _ _ _ _ _ _).mono ?_; rintro e wh ⟨rfl, hh⟩; have hs := held_step (B := w.heap.size + 1) (w0 := w1) (by first | assumption | exact held_refl | exact held_drewN _) hh (by assumption))
    | (go_at_call 17; refine (rstate_any _ _ _ _ _ _ _ _ _ _ _ _ _ _).mono ?_; rintro e wh ⟨rfl, hh⟩; have hs := held_step (B := w.heap.size + 1) (w0 := w1) (by first | assumption | exact held_refl | exact held_drewN _) hh (by assumption))
    | (go_at_call 22; refine (covers_any _ _ _ _ _ _ _ _ _ _ _ _ _ _ _).mono ?_; rintro e wh ⟨rfl, hh⟩; have hs := held_step (B := w.heap.size + 1) (w0 := w1) (by first | assumption | exact held_refl | exact held_drewN _) hh (by assumption))
    | (go_at_call 23; refine (rcovers_any _ _ _ _ _ _ _ _ _ _ _ _ _ _ _).mono ?_; rintro e wh ⟨rfl, hh⟩; have hs := held_step (B := w.heap.size + 1) (w0 := w1) (by first | assumption | exact held_refl | exact held_drewN _) hh (by assumption))
    | (go_at_call 18; refine (age_any _ _ _).mono ?_; rintro e w' ⟨rfl, rfl⟩)
    | (go_at_call 19; refine (rage_any _ _ _).mono ?_; rintro e w' ⟨rfl, rfl⟩)
    | (go_at_call 20; refine (said_any _ _ _).mono ?_; rintro e w' ⟨rfl, rfl⟩)
    | (go_at_call 21; refine (rsaid_any _ _ _).mono ?_; rintro e w' ⟨rfl, rfl⟩)
    | (go_at_call 16; refine (held_any _ _).mono ?_; rintro e w' ⟨rfl, rfl⟩)
    | (go_at_call 14; refine (most_any _).mono ?_; rintro e w' ⟨rfl, rfl⟩))
  have hz := hs.1; clear hh
  go_wp2_with fail
  go_ret
  exact ⟨ret_bool (by simp), (by repeat (first | exact Below.refl _ _ | assumption | refine below_drewN ?_ _ | refine Below.drew ?_ | refine Below.alloc ?_ (by first | exact Nat.le_refl _ | (simp; done) | (simp at *; omega)) _ | refine Below.setCell ?_ (by first | exact Nat.le_refl _ | (simp; done) | (simp at *; omega)) _ | refine Below.trans ?_ (Below.mono (by assumption) (by first | exact Nat.le_refl _ | (simp; done) | (simp at *; omega)))))⟩

set_option maxHeartbeats 1000000 in
theorem freshStates_any (f wh er a b : Int) (w : World) :
    Calls Try.prog 6 #[.agg #[.int .i64 f, .int .i64 wh, .int .i64 er], .int .i64 a, .int .i64 b] w fun e w' => e = .returned (.bool true) ∧ Below w.heap.size w w' := by
  go_enter Try.func6, Try.ntmps6
  go_wp2_with fail
  refine (wakes_any _).mono ?_; rintro e w1 ⟨rfl, h1⟩
  have g1 : Below (w.heap.size + 1) _ w1 := h1.mono (by simp)
  have c1 := fun b o h => g1.cell (p := ⟨b, o, none⟩) h
  have f1 := fun b o h => g1.frozen (p := ⟨b, o, none⟩) h
  have hB := g1.size
  simp at hB
  go_wp2_with fail
  go_region_held3 (fun w' => Below (w.heap.size + 1) w1 w' ∧ ∀ b o, b < w.heap.size + 1 → w'.cell? ⟨b, o, none⟩ = World.cell? w1 ⟨b, o, none⟩) (first | exact held_first | assumption) (first
    | (go_at_call 12; refine (of_any _ _ _ _).mono ?_; rintro e wh ⟨rfl, hh⟩; have hs := held_step (B := w.heap.size + 1) (w0 := w1) (by first | assumption | exact held_refl | exact held_drewN _) hh (by assumption))
    | (go_at_call 11; refine (until_any _ _ _ _ _ _ _ _ _ _ _ _ _ _).mono ?_; rintro e wh ⟨rfl, hh⟩; have hs := held_step (B := w.heap.size + 1) (w0 := w1) (by first | assumption | exact held_refl | exact held_drewN _) hh (by assumption))
    | (go_at_call 13; refine (runtil_any _ _ _ _ _ _ _ _ _ _ _ _ _ _).mono ?_; rintro e wh ⟨rfl, hh⟩; have hs := held_step (B := w.heap.size + 1) (w0 := w1) (by first | assumption | exact held_refl | exact held_drewN _) hh (by assumption))
    | (go_at_call 15; refine (state_any _ _ _ _ _ _ _ _ _ _ _ _ _ _).mono ?_; rintro e wh ⟨rfl, hh⟩; have hs := held_step (B := w.heap.size + 1) (w0 := w1) (by first | assumption | exact held_refl | exact held_drewN _) hh (by assumption))
    | (go_at_call 17; refine (rstate_any _ _ _ _ _ _ _ _ _ _ _ _ _ _).mono ?_; rintro e wh ⟨rfl, hh⟩; have hs := held_step (B := w.heap.size + 1) (w0 := w1) (by first | assumption | exact held_refl | exact held_drewN _) hh (by assumption))
    | (go_at_call 22; refine (covers_any _ _ _ _ _ _ _ _ _ _ _ _ _ _ _).mono ?_; rintro e wh ⟨rfl, hh⟩; have hs := held_step (B := w.heap.size + 1) (w0 := w1) (by first | assumption | exact held_refl | exact held_drewN _) hh (by assumption))
    | (go_at_call 23; refine (rcovers_any _ _ _ _ _ _ _ _ _ _ _ _ _ _ _).mono ?_; rintro e wh ⟨rfl, hh⟩; have hs := held_step (B := w.heap.size + 1) (w0 := w1) (by first | assumption | exact held_refl | exact held_drewN _) hh (by assumption))
    | (go_at_call 18; refine (age_any _ _ _).mono ?_; rintro e w' ⟨rfl, rfl⟩)
    | (go_at_call 19; refine (rage_any _ _ _).mono ?_; rintro e w' ⟨rfl, rfl⟩)
    | (go_at_call 20; refine (said_any _ _ _).mono ?_; rintro e w' ⟨rfl, rfl⟩)
    | (go_at_call 21; refine (rsaid_any _ _ _).mono ?_; rintro e w' ⟨rfl, rfl⟩)
    | (go_at_call 16; refine (held_any _ _).mono ?_; rintro e w' ⟨rfl, rfl⟩)
    | (go_at_call 14; refine (most_any _).mono ?_; rintro e w' ⟨rfl, rfl⟩))
  have hz := hs.1; clear hh
  go_wp2_with fail
  go_ret
  exact ⟨ret_bool (by simp), (by repeat (first | exact Below.refl _ _ | assumption | refine below_drewN ?_ _ | refine Below.drew ?_ | refine Below.alloc ?_ (by first | exact Nat.le_refl _ | (simp; done) | (simp at *; omega)) _ | refine Below.setCell ?_ (by first | exact Nat.le_refl _ | (simp; done) | (simp at *; omega)) _ | refine Below.trans ?_ (Below.mono (by assumption) (by first | exact Nat.le_refl _ | (simp; done) | (simp at *; omega)))))⟩

set_option maxHeartbeats 1000000 in
theorem freshCovers_any (f wh er a b st : Int) (w : World) :
    Calls Try.prog 8 #[.agg #[.int .i64 f, .int .i64 wh, .int .i64 er], .agg #[.int .i64 a, .int .i64 b], .int .i64 st] w fun e w' => e = .returned (.bool true) ∧ Below w.heap.size w w' := by
  go_enter Try.func8, Try.ntmps8
  go_wp2_with fail
  refine (wakes_any _).mono ?_; rintro e w1 ⟨rfl, h1⟩
  have g1 : Below (w.heap.size + 2) _ w1 := h1.mono (by simp)
  have c1 := fun b o h => g1.cell (p := ⟨b, o, none⟩) h
  have f1 := fun b o h => g1.frozen (p := ⟨b, o, none⟩) h
  have hB := g1.size
  simp at hB
  go_wp2_with fail
  go_region_held3 (fun w' => Below (w.heap.size + 2) w1 w' ∧ ∀ b o, b < w.heap.size + 2 → w'.cell? ⟨b, o, none⟩ = World.cell? w1 ⟨b, o, none⟩) (first | exact held_first | assumption) (first
    | (go_at_call 12; refine (of_any _ _ _ _).mono ?_; rintro e wh ⟨rfl, hh⟩; have hs := held_step (B := w.heap.size + 2) (w0 := w1) (by first | assumption | exact held_refl | exact held_drewN _) hh (by assumption))
    | (go_at_call 11; refine (until_any _ _ _ _ _ _ _ _ _ _ _ _ _ _).mono ?_; rintro e wh ⟨rfl, hh⟩; have hs := held_step (B := w.heap.size + 2) (w0 := w1) (by first | assumption | exact held_refl | exact held_drewN _) hh (by assumption))
    | (go_at_call 13; refine (runtil_any _ _ _ _ _ _ _ _ _ _ _ _ _ _).mono ?_; rintro e wh ⟨rfl, hh⟩; have hs := held_step (B := w.heap.size + 2) (w0 := w1) (by first | assumption | exact held_refl | exact held_drewN _) hh (by assumption))
    | (go_at_call 15; refine (state_any _ _ _ _ _ _ _ _ _ _ _ _ _ _).mono ?_; rintro e wh ⟨rfl, hh⟩; have hs := held_step (B := w.heap.size + 2) (w0 := w1) (by first | assumption | exact held_refl | exact held_drewN _) hh (by assumption))
    | (go_at_call 17; refine (rstate_any _ _ _ _ _ _ _ _ _ _ _ _ _ _).mono ?_; rintro e wh ⟨rfl, hh⟩; have hs := held_step (B := w.heap.size + 2) (w0 := w1) (by first | assumption | exact held_refl | exact held_drewN _) hh (by assumption))
    | (go_at_call 22; refine (covers_any _ _ _ _ _ _ _ _ _ _ _ _ _ _ _).mono ?_; rintro e wh ⟨rfl, hh⟩; have hs := held_step (B := w.heap.size + 2) (w0 := w1) (by first | assumption | exact held_refl | exact held_drewN _) hh (by assumption))
    | (go_at_call 23; refine (rcovers_any _ _ _ _ _ _ _ _ _ _ _ _ _ _ _).mono ?_; rintro e wh ⟨rfl, hh⟩; have hs := held_step (B := w.heap.size + 2) (w0 := w1) (by first | assumption | exact held_refl | exact held_drewN _) hh (by assumption))
    | (go_at_call 18; refine (age_any _ _ _).mono ?_; rintro e w' ⟨rfl, rfl⟩)
    | (go_at_call 19; refine (rage_any _ _ _).mono ?_; rintro e w' ⟨rfl, rfl⟩)
    | (go_at_call 20; refine (said_any _ _ _).mono ?_; rintro e w' ⟨rfl, rfl⟩)
    | (go_at_call 21; refine (rsaid_any _ _ _).mono ?_; rintro e w' ⟨rfl, rfl⟩)
    | (go_at_call 16; refine (held_any _ _).mono ?_; rintro e w' ⟨rfl, rfl⟩)
    | (go_at_call 14; refine (most_any _).mono ?_; rintro e w' ⟨rfl, rfl⟩))
  have hz := hs.1; clear hh
  go_wp2_with fail
  go_ret
  exact ⟨ret_bool (by simp), (by repeat (first | exact Below.refl _ _ | assumption | refine below_drewN ?_ _ | refine Below.drew ?_ | refine Below.alloc ?_ (by first | exact Nat.le_refl _ | (simp; done) | (simp at *; omega)) _ | refine Below.setCell ?_ (by first | exact Nat.le_refl _ | (simp; done) | (simp at *; omega)) _ | refine Below.trans ?_ (Below.mono (by assumption) (by first | exact Nat.le_refl _ | (simp; done) | (simp at *; omega)))))⟩

set_option maxHeartbeats 1000000 in
theorem freshAges_any (a b : Int) (w : World) :
    Calls Try.prog 7 #[.int .i64 a, .int .i64 b] w fun e w' => e = .returned (.bool true) ∧ Below w.heap.size w w' := by
  have ha := tk_bd a
  have hb := tk_bd b
  have ka : tk (tk a) = tk a := by unfold tk; omega
  have kb : tk (tk b) = tk b := by unfold tk; omega
  by_cases h : tk b < tk a
  · have k1 : ageF (tk a) (tk b) = 0 := by unfold ageF; rw [ka, kb]; omega
    go_enter Try.func7, Try.ntmps7
    go_wp2_with fail
    refine (wakes_any _).mono ?_; rintro e w1 ⟨rfl, h1⟩
    go_wp2_with (first | (go_at_call 18; refine (age_any _ _ _).mono ?_; rintro e w' ⟨rfl, rfl⟩) | (go_at_call 16; refine (held_any _ _).mono ?_; rintro e w' ⟨rfl, rfl⟩))
    go_ret
    exact ⟨ret_bool (by simp), (by repeat (first | exact Below.refl _ _ | assumption | refine below_drewN ?_ _ | refine Below.drew ?_ | refine Below.alloc ?_ (by first | exact Nat.le_refl _ | (simp; done) | (simp at *; omega)) _ | refine Below.setCell ?_ (by first | exact Nat.le_refl _ | (simp; done) | (simp at *; omega)) _ | refine Below.trans ?_ (Below.mono (by assumption) (by first | exact Nat.le_refl _ | (simp; done) | (simp at *; omega)))))⟩
  · have k1 : saidF (tk b) (ageF (tk a) (tk b)) = tk a := by unfold saidF ageF; rw [ka, kb, show tk (max (tk b - tk a) 0) = tk b - tk a from by unfold tk at *; omega]; omega
    go_enter Try.func7, Try.ntmps7
    go_wp2_with fail
    refine (wakes_any _).mono ?_; rintro e w1 ⟨rfl, h1⟩
    go_wp2_with (first | (go_at_call 18; refine (age_any _ _ _).mono ?_; rintro e w' ⟨rfl, rfl⟩) | (go_at_call 16; refine (held_any _ _).mono ?_; rintro e w' ⟨rfl, rfl⟩) | (go_at_call 20; refine (said_any _ _ _).mono ?_; rintro e w' ⟨rfl, rfl⟩))
    go_ret
    exact ⟨ret_bool (by simp), (by repeat (first | exact Below.refl _ _ | assumption | refine below_drewN ?_ _ | refine Below.drew ?_ | refine Below.alloc ?_ (by first | exact Nat.le_refl _ | (simp; done) | (simp at *; omega)) _ | refine Below.setCell ?_ (by first | exact Nat.le_refl _ | (simp; done) | (simp at *; omega)) _ | refine Below.trans ?_ (Below.mono (by assumption) (by first | exact Nat.le_refl _ | (simp; done) | (simp at *; omega)))))⟩

theorem turns_law (f wh er a k : Int) (hk : 1 ≤ k ∧ k ≤ 3) (h : untilF f wh er a k ≤ 1099511627776) :
    k < stateF f wh er a (untilF f wh er a k) ∧ (tk a < untilF f wh er a k → stateF f wh er a (untilF f wh er a k - 1) ≤ k) := by
  have ha := tk_bd a
  have hf := tk_bd f
  have hw := tk_bd wh
  have he := tk_bd er
  have hc : k = 1 ∨ k = 2 ∨ k = 3 := by omega
  have key : ∀ n, 0 ≤ n → n ≤ 1099511627776 → ageF a n = max (n - tk a) 0 := by
    intro n h0 h1; have : tk n = n := by unfold tk; omega
    unfold ageF; rw [this]
  rcases hc with rfl | rfl | rfl
  all_goals
    simp [untilF] at h ⊢
    refine ⟨?_, fun hlt => ?_⟩
    · unfold stateF; rw [key _ (by omega) (by omega)]; repeat' split <;> omega
    · unfold stateF; rw [key _ (by omega) (by omega)]; repeat' split <;> omega

theorem until_bd (f wh er a k : Int) : 0 ≤ untilF f wh er a k ∧ untilF f wh er a k ≤ 8796093022208 := by
  have ha := tk_bd a
  have hf := tk_bd f
  have hw := tk_bd wh
  have he := tk_bd er
  unfold untilF; repeat' split <;> omega

set_option maxHeartbeats 1000000 in
theorem freshTurns_any (f wh er a st : Int) (w : World) (hst : 0 ≤ st ∧ st ≤ 255) :
    Calls Try.prog 4 #[.agg #[.int .i64 f, .int .i64 wh, .int .i64 er], .int .i64 a, .int .u8 st] w fun e w' => e = .returned (.bool true) ∧ Below w.heap.size w w' := by
  have hm : 0 ≤ st % 3 ∧ st % 3 ≤ 2 := by omega
  have hk1 : 1 ≤ 1 + st % 3 ∧ 1 + st % 3 ≤ 3 := by omega
  have hu := until_bd f wh er a (1 + st % 3)
  have ha := tk_bd a
  by_cases hb : untilF f wh er a (1 + st % 3) ≤ 1099511627776
  · obtain ⟨t1, t2⟩ := turns_law f wh er a _ hk1 hb
    by_cases hc : untilF f wh er a (1 + st % 3) ≤ tk a
    · clear t2
      go_enter Try.func4, Try.ntmps4
      go_wp2_with fail
      refine (wakes_any _).mono ?_; rintro e w1 ⟨rfl, h1⟩
      have g1 : Below (w.heap.size + 1) _ w1 := h1.mono (by simp)
      have c1 := fun b o h => g1.cell (p := ⟨b, o, none⟩) h
      have f1 := fun b o h => g1.frozen (p := ⟨b, o, none⟩) h
      have hB := g1.size
      simp at hB
      go_wp2_with fail
      go_wp2_with (first
        | (go_at_call 12; refine (of_any _ _ _ _).mono ?_; rintro e wh ⟨rfl, hh⟩; have hs := held_step (B := w.heap.size + 1) (w0 := w1) (by first | assumption | exact held_refl | exact held_drewN _) hh (by assumption))
        | (go_at_call 11; refine (until_any _ _ _ _ _ _ _ _ _ _ _ _ _ _).mono ?_; rintro e wh ⟨rfl, hh⟩; have hs := held_step (B := w.heap.size + 1) (w0 := w1) (by first | assumption | exact held_refl | exact held_drewN _) hh (by assumption))
        | (go_at_call 13; refine (runtil_any _ _ _ _ _ _ _ _ _ _ _ _ _ _).mono ?_; rintro e wh ⟨rfl, hh⟩; have hs := held_step (B := w.heap.size + 1) (w0 := w1) (by first | assumption | exact held_refl | exact held_drewN _) hh (by assumption))
        | (go_at_call 15; refine (state_any _ _ _ _ _ _ _ _ _ _ _ _ _ _).mono ?_; rintro e wh ⟨rfl, hh⟩; have hs := held_step (B := w.heap.size + 1) (w0 := w1) (by first | assumption | exact held_refl | exact held_drewN _) hh (by assumption))
        | (go_at_call 17; refine (rstate_any _ _ _ _ _ _ _ _ _ _ _ _ _ _).mono ?_; rintro e wh ⟨rfl, hh⟩; have hs := held_step (B := w.heap.size + 1) (w0 := w1) (by first | assumption | exact held_refl | exact held_drewN _) hh (by assumption))
        | (go_at_call 22; refine (covers_any _ _ _ _ _ _ _ _ _ _ _ _ _ _ _).mono ?_; rintro e wh ⟨rfl, hh⟩; have hs := held_step (B := w.heap.size + 1) (w0 := w1) (by first | assumption | exact held_refl | exact held_drewN _) hh (by assumption))
        | (go_at_call 23; refine (rcovers_any _ _ _ _ _ _ _ _ _ _ _ _ _ _ _).mono ?_; rintro e wh ⟨rfl, hh⟩; have hs := held_step (B := w.heap.size + 1) (w0 := w1) (by first | assumption | exact held_refl | exact held_drewN _) hh (by assumption))
        | (go_at_call 18; refine (age_any _ _ _).mono ?_; rintro e w' ⟨rfl, rfl⟩)
        | (go_at_call 19; refine (rage_any _ _ _).mono ?_; rintro e w' ⟨rfl, rfl⟩)
        | (go_at_call 20; refine (said_any _ _ _).mono ?_; rintro e w' ⟨rfl, rfl⟩)
        | (go_at_call 21; refine (rsaid_any _ _ _).mono ?_; rintro e w' ⟨rfl, rfl⟩)
        | (go_at_call 16; refine (held_any _ _).mono ?_; rintro e w' ⟨rfl, rfl⟩)
        | (go_at_call 14; refine (most_any _).mono ?_; rintro e w' ⟨rfl, rfl⟩))
      go_ret
      have hz := hs.1
      exact ⟨ret_bool (by simp), (by repeat (first | exact Below.refl _ _ | assumption | refine below_drewN ?_ _ | refine Below.drew ?_ | refine Below.alloc ?_ (by first | exact Nat.le_refl _ | (simp; done) | (simp at *; omega)) _ | refine Below.setCell ?_ (by first | exact Nat.le_refl _ | (simp; done) | (simp at *; omega)) _ | refine Below.trans ?_ (Below.mono (by assumption) (by first | exact Nat.le_refl _ | (simp; done) | (simp at *; omega)))))⟩
    · have t3 := t2 (by omega)
      clear t2
      go_enter Try.func4, Try.ntmps4
      go_wp2_with fail
      refine (wakes_any _).mono ?_; rintro e w1 ⟨rfl, h1⟩
      have g1 : Below (w.heap.size + 1) _ w1 := h1.mono (by simp)
      have c1 := fun b o h => g1.cell (p := ⟨b, o, none⟩) h
      have f1 := fun b o h => g1.frozen (p := ⟨b, o, none⟩) h
      have hB := g1.size
      simp at hB
      go_wp2_with fail
      go_wp2_with (first
        | (go_at_call 12; refine (of_any _ _ _ _).mono ?_; rintro e wh ⟨rfl, hh⟩; have hs := held_step (B := w.heap.size + 1) (w0 := w1) (by first | assumption | exact held_refl | exact held_drewN _) hh (by assumption))
        | (go_at_call 11; refine (until_any _ _ _ _ _ _ _ _ _ _ _ _ _ _).mono ?_; rintro e wh ⟨rfl, hh⟩; have hs := held_step (B := w.heap.size + 1) (w0 := w1) (by first | assumption | exact held_refl | exact held_drewN _) hh (by assumption))
        | (go_at_call 13; refine (runtil_any _ _ _ _ _ _ _ _ _ _ _ _ _ _).mono ?_; rintro e wh ⟨rfl, hh⟩; have hs := held_step (B := w.heap.size + 1) (w0 := w1) (by first | assumption | exact held_refl | exact held_drewN _) hh (by assumption))
        | (go_at_call 15; refine (state_any _ _ _ _ _ _ _ _ _ _ _ _ _ _).mono ?_; rintro e wh ⟨rfl, hh⟩; have hs := held_step (B := w.heap.size + 1) (w0 := w1) (by first | assumption | exact held_refl | exact held_drewN _) hh (by assumption))
        | (go_at_call 17; refine (rstate_any _ _ _ _ _ _ _ _ _ _ _ _ _ _).mono ?_; rintro e wh ⟨rfl, hh⟩; have hs := held_step (B := w.heap.size + 1) (w0 := w1) (by first | assumption | exact held_refl | exact held_drewN _) hh (by assumption))
        | (go_at_call 22; refine (covers_any _ _ _ _ _ _ _ _ _ _ _ _ _ _ _).mono ?_; rintro e wh ⟨rfl, hh⟩; have hs := held_step (B := w.heap.size + 1) (w0 := w1) (by first | assumption | exact held_refl | exact held_drewN _) hh (by assumption))
        | (go_at_call 23; refine (rcovers_any _ _ _ _ _ _ _ _ _ _ _ _ _ _ _).mono ?_; rintro e wh ⟨rfl, hh⟩; have hs := held_step (B := w.heap.size + 1) (w0 := w1) (by first | assumption | exact held_refl | exact held_drewN _) hh (by assumption))
        | (go_at_call 18; refine (age_any _ _ _).mono ?_; rintro e w' ⟨rfl, rfl⟩)
        | (go_at_call 19; refine (rage_any _ _ _).mono ?_; rintro e w' ⟨rfl, rfl⟩)
        | (go_at_call 20; refine (said_any _ _ _).mono ?_; rintro e w' ⟨rfl, rfl⟩)
        | (go_at_call 21; refine (rsaid_any _ _ _).mono ?_; rintro e w' ⟨rfl, rfl⟩)
        | (go_at_call 16; refine (held_any _ _).mono ?_; rintro e w' ⟨rfl, rfl⟩)
        | (go_at_call 14; refine (most_any _).mono ?_; rintro e w' ⟨rfl, rfl⟩))
      go_ret
      have hz := hs.1
      exact ⟨ret_bool (by simp), (by repeat (first | exact Below.refl _ _ | assumption | refine below_drewN ?_ _ | refine Below.drew ?_ | refine Below.alloc ?_ (by first | exact Nat.le_refl _ | (simp; done) | (simp at *; omega)) _ | refine Below.setCell ?_ (by first | exact Nat.le_refl _ | (simp; done) | (simp at *; omega)) _ | refine Below.trans ?_ (Below.mono (by assumption) (by first | exact Nat.le_refl _ | (simp; done) | (simp at *; omega)))))⟩
  · 
    go_enter Try.func4, Try.ntmps4
    go_wp2_with fail
    refine (wakes_any _).mono ?_; rintro e w1 ⟨rfl, h1⟩
    have g1 : Below (w.heap.size + 1) _ w1 := h1.mono (by simp)
    have c1 := fun b o h => g1.cell (p := ⟨b, o, none⟩) h
    have f1 := fun b o h => g1.frozen (p := ⟨b, o, none⟩) h
    have hB := g1.size
    simp at hB
    go_wp2_with fail
    go_wp2_with (first
      | (go_at_call 12; refine (of_any _ _ _ _).mono ?_; rintro e wh ⟨rfl, hh⟩; have hs := held_step (B := w.heap.size + 1) (w0 := w1) (by first | assumption | exact held_refl | exact held_drewN _) hh (by assumption))
      | (go_at_call 11; refine (until_any _ _ _ _ _ _ _ _ _ _ _ _ _ _).mono ?_; rintro e wh ⟨rfl, hh⟩; have hs := held_step (B := w.heap.size + 1) (w0 := w1) (by first | assumption | exact held_refl | exact held_drewN _) hh (by assumption))
      | (go_at_call 13; refine (runtil_any _ _ _ _ _ _ _ _ _ _ _ _ _ _).mono ?_; rintro e wh ⟨rfl, hh⟩; have hs := held_step (B := w.heap.size + 1) (w0 := w1) (by first | assumption | exact held_refl | exact held_drewN _) hh (by assumption))
      | (go_at_call 15; refine (state_any _ _ _ _ _ _ _ _ _ _ _ _ _ _).mono ?_; rintro e wh ⟨rfl, hh⟩; have hs := held_step (B := w.heap.size + 1) (w0 := w1) (by first | assumption | exact held_refl | exact held_drewN _) hh (by assumption))
      | (go_at_call 17; refine (rstate_any _ _ _ _ _ _ _ _ _ _ _ _ _ _).mono ?_; rintro e wh ⟨rfl, hh⟩; have hs := held_step (B := w.heap.size + 1) (w0 := w1) (by first | assumption | exact held_refl | exact held_drewN _) hh (by assumption))
      | (go_at_call 22; refine (covers_any _ _ _ _ _ _ _ _ _ _ _ _ _ _ _).mono ?_; rintro e wh ⟨rfl, hh⟩; have hs := held_step (B := w.heap.size + 1) (w0 := w1) (by first | assumption | exact held_refl | exact held_drewN _) hh (by assumption))
      | (go_at_call 23; refine (rcovers_any _ _ _ _ _ _ _ _ _ _ _ _ _ _ _).mono ?_; rintro e wh ⟨rfl, hh⟩; have hs := held_step (B := w.heap.size + 1) (w0 := w1) (by first | assumption | exact held_refl | exact held_drewN _) hh (by assumption))
      | (go_at_call 18; refine (age_any _ _ _).mono ?_; rintro e w' ⟨rfl, rfl⟩)
      | (go_at_call 19; refine (rage_any _ _ _).mono ?_; rintro e w' ⟨rfl, rfl⟩)
      | (go_at_call 20; refine (said_any _ _ _).mono ?_; rintro e w' ⟨rfl, rfl⟩)
      | (go_at_call 21; refine (rsaid_any _ _ _).mono ?_; rintro e w' ⟨rfl, rfl⟩)
      | (go_at_call 16; refine (held_any _ _).mono ?_; rintro e w' ⟨rfl, rfl⟩)
      | (go_at_call 14; refine (most_any _).mono ?_; rintro e w' ⟨rfl, rfl⟩))
    go_ret
    have hz := hs.1
    exact ⟨ret_bool (by simp), (by repeat (first | exact Below.refl _ _ | assumption | refine below_drewN ?_ _ | refine Below.drew ?_ | refine Below.alloc ?_ (by first | exact Nat.le_refl _ | (simp; done) | (simp at *; omega)) _ | refine Below.setCell ?_ (by first | exact Nat.le_refl _ | (simp; done) | (simp at *; omega)) _ | refine Below.trans ?_ (Below.mono (by assumption) (by first | exact Nat.le_refl _ | (simp; done) | (simp at *; omega)))))⟩

theorem tk_id (n : Int) (h0 : 0 ≤ n) (h1 : n ≤ 1099511627776) : tk n = n := by unfold tk; omega
theorem falls_law (f wh er a b : Int) (ha : 0 ≤ a) (ha' : a < 1099511627776) (hb : 0 ≤ b) (hb' : b < 1099511627776) :
    stateF f wh er a b ≤ stateF f wh er a (b + 1) ∧ stateF f wh er (a + 1) b ≤ stateF f wh er a b ∧ 1 ≤ stateF f wh er a b ∧ stateF f wh er a b ≤ 4 := by
  have hf := tk_bd f
  have hw := tk_bd wh
  have he := tk_bd er
  have k1 := tk_id a ha (by omega)
  have k2 := tk_id b hb (by omega)
  have k3 := tk_id (a + 1) (by omega) (by omega)
  have k4 := tk_id (b + 1) (by omega) (by omega)
  unfold stateF ageF
  rw [k1, k2, k3, k4]
  refine ⟨?_, ?_, ?_, ?_⟩ <;> (repeat' split) <;> omega
theorem more_law (f wh er a b k : Int) (hk : 1 ≤ k ∧ k ≤ 3) (ha : 0 ≤ a) (ha' : a ≤ 1099511627776) (hb : 0 ≤ b) (hb' : b ≤ 1099511627776) (h : coversF f wh er a b k = true) :
    (k < 3 → coversF f wh er a b (k + 1) = true) ∧ (a < 1099511627776 → coversF f wh er (a + 1) b k = true) := by
  have k1 := tk_id a ha (by omega)
  have k2 := tk_id b hb (by omega)
  have hn : ¬ (k < 1 ∨ 3 < k) := by omega
  unfold coversF at h ⊢
  rw [if_neg hn] at h
  rw [k1, k2] at h
  have h := of_decide_eq_true h
  refine ⟨fun h3 => ?_, fun hm => ?_⟩
  · rw [if_neg (by omega), k1, k2]; exact decide_eq_true (by omega)
  · rw [if_neg hn, tk_id (a + 1) (by omega) (by omega), k2]
    refine decide_eq_true ?_
    by_cases hb : b < 1099511627776
    · have := (falls_law f wh er a b ha hm (by omega) hb).2.1
      omega
    · rcases h with h | h
      · omega
      · right
        have hf := tk_bd f
        have hw := tk_bd wh
        have he := tk_bd er
        refine Int.le_trans ?_ h
        unfold stateF ageF
        rw [k1, k2, tk_id (a + 1) (by omega) (by omega)]
        (repeat' split) <;> omega

set_option maxHeartbeats 1000000 in
theorem freshFalls_any (f wh er a b : Int) (w : World) :
    Calls Try.prog 5 #[.agg #[.int .i64 f, .int .i64 wh, .int .i64 er], .int .i64 a, .int .i64 b] w fun e w' => e = .returned (.bool true) ∧ Below w.heap.size w w' := by
  have ha := tk_bd a
  have hb := tk_bd b
  by_cases h1 : 1099511627776 ≤ tk a
  · 
    go_enter Try.func5, Try.ntmps5
    go_wp2_with fail
    refine (wakes_any _).mono ?_; rintro e w1 ⟨rfl, h1⟩
    have g1 : Below (w.heap.size + 1) _ w1 := h1.mono (by simp)
    have c1 := fun b o h => g1.cell (p := ⟨b, o, none⟩) h
    have f1 := fun b o h => g1.frozen (p := ⟨b, o, none⟩) h
    have hB := g1.size
    simp at hB
    go_wp2_with fail
    go_wp2_with (first
      | (go_at_call 12; refine (of_any _ _ _ _).mono ?_; rintro e wh ⟨rfl, hh⟩; have hs := held_step (B := w.heap.size + 1) (w0 := w1) (by first | assumption | exact held_refl | exact held_drewN _) hh (by assumption))
      | (go_at_call 11; refine (until_any _ _ _ _ _ _ _ _ _ _ _ _ _ _).mono ?_; rintro e wh ⟨rfl, hh⟩; have hs := held_step (B := w.heap.size + 1) (w0 := w1) (by first | assumption | exact held_refl | exact held_drewN _) hh (by assumption))
      | (go_at_call 13; refine (runtil_any _ _ _ _ _ _ _ _ _ _ _ _ _ _).mono ?_; rintro e wh ⟨rfl, hh⟩; have hs := held_step (B := w.heap.size + 1) (w0 := w1) (by first | assumption | exact held_refl | exact held_drewN _) hh (by assumption))
      | (go_at_call 15; refine (state_any _ _ _ _ _ _ _ _ _ _ _ _ _ _).mono ?_; rintro e wh ⟨rfl, hh⟩; have hs := held_step (B := w.heap.size + 1) (w0 := w1) (by first | assumption | exact held_refl | exact held_drewN _) hh (by assumption))
      | (go_at_call 17; refine (rstate_any _ _ _ _ _ _ _ _ _ _ _ _ _ _).mono ?_; rintro e wh ⟨rfl, hh⟩; have hs := held_step (B := w.heap.size + 1) (w0 := w1) (by first | assumption | exact held_refl | exact held_drewN _) hh (by assumption))
      | (go_at_call 22; refine (covers_any _ _ _ _ _ _ _ _ _ _ _ _ _ _ _).mono ?_; rintro e wh ⟨rfl, hh⟩; have hs := held_step (B := w.heap.size + 1) (w0 := w1) (by first | assumption | exact held_refl | exact held_drewN _) hh (by assumption))
      | (go_at_call 23; refine (rcovers_any _ _ _ _ _ _ _ _ _ _ _ _ _ _ _).mono ?_; rintro e wh ⟨rfl, hh⟩; have hs := held_step (B := w.heap.size + 1) (w0 := w1) (by first | assumption | exact held_refl | exact held_drewN _) hh (by assumption))
      | (go_at_call 18; refine (age_any _ _ _).mono ?_; rintro e w' ⟨rfl, rfl⟩)
      | (go_at_call 19; refine (rage_any _ _ _).mono ?_; rintro e w' ⟨rfl, rfl⟩)
      | (go_at_call 20; refine (said_any _ _ _).mono ?_; rintro e w' ⟨rfl, rfl⟩)
      | (go_at_call 21; refine (rsaid_any _ _ _).mono ?_; rintro e w' ⟨rfl, rfl⟩)
      | (go_at_call 16; refine (held_any _ _).mono ?_; rintro e w' ⟨rfl, rfl⟩)
      | (go_at_call 14; refine (most_any _).mono ?_; rintro e w' ⟨rfl, rfl⟩))
    go_ret
    exact ⟨ret_bool (by simp), (by repeat (first | exact Below.refl _ _ | assumption | refine below_drewN ?_ _ | refine Below.drew ?_ | refine Below.alloc ?_ (by first | exact Nat.le_refl _ | (simp; done) | (simp at *; omega)) _ | refine Below.setCell ?_ (by first | exact Nat.le_refl _ | (simp; done) | (simp at *; omega)) _ | refine Below.trans ?_ (Below.mono (by assumption) (by first | exact Nat.le_refl _ | (simp; done) | (simp at *; omega)))))⟩
  by_cases h2 : 1099511627776 ≤ tk b
  · 
    go_enter Try.func5, Try.ntmps5
    go_wp2_with fail
    refine (wakes_any _).mono ?_; rintro e w1 ⟨rfl, h1⟩
    have g1 : Below (w.heap.size + 1) _ w1 := h1.mono (by simp)
    have c1 := fun b o h => g1.cell (p := ⟨b, o, none⟩) h
    have f1 := fun b o h => g1.frozen (p := ⟨b, o, none⟩) h
    have hB := g1.size
    simp at hB
    go_wp2_with fail
    go_wp2_with (first
      | (go_at_call 12; refine (of_any _ _ _ _).mono ?_; rintro e wh ⟨rfl, hh⟩; have hs := held_step (B := w.heap.size + 1) (w0 := w1) (by first | assumption | exact held_refl | exact held_drewN _) hh (by assumption))
      | (go_at_call 11; refine (until_any _ _ _ _ _ _ _ _ _ _ _ _ _ _).mono ?_; rintro e wh ⟨rfl, hh⟩; have hs := held_step (B := w.heap.size + 1) (w0 := w1) (by first | assumption | exact held_refl | exact held_drewN _) hh (by assumption))
      | (go_at_call 13; refine (runtil_any _ _ _ _ _ _ _ _ _ _ _ _ _ _).mono ?_; rintro e wh ⟨rfl, hh⟩; have hs := held_step (B := w.heap.size + 1) (w0 := w1) (by first | assumption | exact held_refl | exact held_drewN _) hh (by assumption))
      | (go_at_call 15; refine (state_any _ _ _ _ _ _ _ _ _ _ _ _ _ _).mono ?_; rintro e wh ⟨rfl, hh⟩; have hs := held_step (B := w.heap.size + 1) (w0 := w1) (by first | assumption | exact held_refl | exact held_drewN _) hh (by assumption))
      | (go_at_call 17; refine (rstate_any _ _ _ _ _ _ _ _ _ _ _ _ _ _).mono ?_; rintro e wh ⟨rfl, hh⟩; have hs := held_step (B := w.heap.size + 1) (w0 := w1) (by first | assumption | exact held_refl | exact held_drewN _) hh (by assumption))
      | (go_at_call 22; refine (covers_any _ _ _ _ _ _ _ _ _ _ _ _ _ _ _).mono ?_; rintro e wh ⟨rfl, hh⟩; have hs := held_step (B := w.heap.size + 1) (w0 := w1) (by first | assumption | exact held_refl | exact held_drewN _) hh (by assumption))
      | (go_at_call 23; refine (rcovers_any _ _ _ _ _ _ _ _ _ _ _ _ _ _ _).mono ?_; rintro e wh ⟨rfl, hh⟩; have hs := held_step (B := w.heap.size + 1) (w0 := w1) (by first | assumption | exact held_refl | exact held_drewN _) hh (by assumption))
      | (go_at_call 18; refine (age_any _ _ _).mono ?_; rintro e w' ⟨rfl, rfl⟩)
      | (go_at_call 19; refine (rage_any _ _ _).mono ?_; rintro e w' ⟨rfl, rfl⟩)
      | (go_at_call 20; refine (said_any _ _ _).mono ?_; rintro e w' ⟨rfl, rfl⟩)
      | (go_at_call 21; refine (rsaid_any _ _ _).mono ?_; rintro e w' ⟨rfl, rfl⟩)
      | (go_at_call 16; refine (held_any _ _).mono ?_; rintro e w' ⟨rfl, rfl⟩)
      | (go_at_call 14; refine (most_any _).mono ?_; rintro e w' ⟨rfl, rfl⟩))
    go_ret
    exact ⟨ret_bool (by simp), (by repeat (first | exact Below.refl _ _ | assumption | refine below_drewN ?_ _ | refine Below.drew ?_ | refine Below.alloc ?_ (by first | exact Nat.le_refl _ | (simp; done) | (simp at *; omega)) _ | refine Below.setCell ?_ (by first | exact Nat.le_refl _ | (simp; done) | (simp at *; omega)) _ | refine Below.trans ?_ (Below.mono (by assumption) (by first | exact Nat.le_refl _ | (simp; done) | (simp at *; omega)))))⟩
  obtain ⟨t1, t2, t3, t4⟩ := falls_law f wh er (tk a) (tk b) ha.1 (by omega) hb.1 (by omega)
  go_enter Try.func5, Try.ntmps5
  go_wp2_with fail
  refine (wakes_any _).mono ?_; rintro e w1 ⟨rfl, h1⟩
  have g1 : Below (w.heap.size + 1) _ w1 := h1.mono (by simp)
  have c1 := fun b o h => g1.cell (p := ⟨b, o, none⟩) h
  have f1 := fun b o h => g1.frozen (p := ⟨b, o, none⟩) h
  have hB := g1.size
  simp at hB
  go_wp2_with fail
  go_wp2_with (first
    | (go_at_call 12; refine (of_any _ _ _ _).mono ?_; rintro e wh ⟨rfl, hh⟩; have hs := held_step (B := w.heap.size + 1) (w0 := w1) (by first | assumption | exact held_refl | exact held_drewN _) hh (by assumption))
    | (go_at_call 11; refine (until_any _ _ _ _ _ _ _ _ _ _ _ _ _ _).mono ?_; rintro e wh ⟨rfl, hh⟩; have hs := held_step (B := w.heap.size + 1) (w0 := w1) (by first | assumption | exact held_refl | exact held_drewN _) hh (by assumption))
    | (go_at_call 13; refine (runtil_any _ _ _ _ _ _ _ _ _ _ _ _ _ _).mono ?_; rintro e wh ⟨rfl, hh⟩; have hs := held_step (B := w.heap.size + 1) (w0 := w1) (by first | assumption | exact held_refl | exact held_drewN _) hh (by assumption))
    | (go_at_call 15; refine (state_any _ _ _ _ _ _ _ _ _ _ _ _ _ _).mono ?_; rintro e wh ⟨rfl, hh⟩; have hs := held_step (B := w.heap.size + 1) (w0 := w1) (by first | assumption | exact held_refl | exact held_drewN _) hh (by assumption))
    | (go_at_call 17; refine (rstate_any _ _ _ _ _ _ _ _ _ _ _ _ _ _).mono ?_; rintro e wh ⟨rfl, hh⟩; have hs := held_step (B := w.heap.size + 1) (w0 := w1) (by first | assumption | exact held_refl | exact held_drewN _) hh (by assumption))
    | (go_at_call 22; refine (covers_any _ _ _ _ _ _ _ _ _ _ _ _ _ _ _).mono ?_; rintro e wh ⟨rfl, hh⟩; have hs := held_step (B := w.heap.size + 1) (w0 := w1) (by first | assumption | exact held_refl | exact held_drewN _) hh (by assumption))
    | (go_at_call 23; refine (rcovers_any _ _ _ _ _ _ _ _ _ _ _ _ _ _ _).mono ?_; rintro e wh ⟨rfl, hh⟩; have hs := held_step (B := w.heap.size + 1) (w0 := w1) (by first | assumption | exact held_refl | exact held_drewN _) hh (by assumption))
    | (go_at_call 18; refine (age_any _ _ _).mono ?_; rintro e w' ⟨rfl, rfl⟩)
    | (go_at_call 19; refine (rage_any _ _ _).mono ?_; rintro e w' ⟨rfl, rfl⟩)
    | (go_at_call 20; refine (said_any _ _ _).mono ?_; rintro e w' ⟨rfl, rfl⟩)
    | (go_at_call 21; refine (rsaid_any _ _ _).mono ?_; rintro e w' ⟨rfl, rfl⟩)
    | (go_at_call 16; refine (held_any _ _).mono ?_; rintro e w' ⟨rfl, rfl⟩)
    | (go_at_call 14; refine (most_any _).mono ?_; rintro e w' ⟨rfl, rfl⟩))
  go_ret
  have hz := hs.1
  exact ⟨ret_bool (by simp), (by repeat (first | exact Below.refl _ _ | assumption | refine below_drewN ?_ _ | refine Below.drew ?_ | refine Below.alloc ?_ (by first | exact Nat.le_refl _ | (simp; done) | (simp at *; omega)) _ | refine Below.setCell ?_ (by first | exact Nat.le_refl _ | (simp; done) | (simp at *; omega)) _ | refine Below.trans ?_ (Below.mono (by assumption) (by first | exact Nat.le_refl _ | (simp; done) | (simp at *; omega)))))⟩

set_option maxHeartbeats 1000000 in
theorem freshMore_any (f wh er a b st : Int) (w : World) (hst : 0 ≤ st ∧ st ≤ 255) :
    Calls Try.prog 9 #[.agg #[.int .i64 f, .int .i64 wh, .int .i64 er], .agg #[.int .i64 a, .int .i64 b], .int .u8 st] w fun e w' => e = .returned (.bool true) ∧ Below w.heap.size w w' := by
  have hm : 0 ≤ st % 3 ∧ st % 3 ≤ 2 := by omega
  have ha := tk_bd a
  have hb := tk_bd b
  cases hc : coversF f wh er (tk a) (tk b) (1 + st % 3)
  · 
    go_enter Try.func9, Try.ntmps9
    go_wp2_with fail
    refine (wakes_any _).mono ?_; rintro e w1 ⟨rfl, h1⟩
    have g1 : Below (w.heap.size + 2) _ w1 := h1.mono (by simp)
    have c1 := fun b o h => g1.cell (p := ⟨b, o, none⟩) h
    have f1 := fun b o h => g1.frozen (p := ⟨b, o, none⟩) h
    have hB := g1.size
    simp at hB
    go_wp2_with fail
    go_quiet ((go_at_call 16; first | exact quiet_add (held_any _ _) | exact quiet_same (held_any _ _)))
    go_wp2_with (first
      | (go_at_call 12; refine (of_any _ _ _ _).mono ?_; rintro e wh ⟨rfl, hh⟩; have hs := held_step (B := w.heap.size + 2) (w0 := w1) (by first | assumption | exact held_refl | exact held_drewN _) hh (by assumption))
      | (go_at_call 11; refine (until_any _ _ _ _ _ _ _ _ _ _ _ _ _ _).mono ?_; rintro e wh ⟨rfl, hh⟩; have hs := held_step (B := w.heap.size + 2) (w0 := w1) (by first | assumption | exact held_refl | exact held_drewN _) hh (by assumption))
      | (go_at_call 13; refine (runtil_any _ _ _ _ _ _ _ _ _ _ _ _ _ _).mono ?_; rintro e wh ⟨rfl, hh⟩; have hs := held_step (B := w.heap.size + 2) (w0 := w1) (by first | assumption | exact held_refl | exact held_drewN _) hh (by assumption))
      | (go_at_call 15; refine (state_any _ _ _ _ _ _ _ _ _ _ _ _ _ _).mono ?_; rintro e wh ⟨rfl, hh⟩; have hs := held_step (B := w.heap.size + 2) (w0 := w1) (by first | assumption | exact held_refl | exact held_drewN _) hh (by assumption))
      | (go_at_call 17; refine (rstate_any _ _ _ _ _ _ _ _ _ _ _ _ _ _).mono ?_; rintro e wh ⟨rfl, hh⟩; have hs := held_step (B := w.heap.size + 2) (w0 := w1) (by first | assumption | exact held_refl | exact held_drewN _) hh (by assumption))
      | (go_at_call 22; refine (covers_any _ _ _ _ _ _ _ _ _ _ _ _ _ _ _).mono ?_; rintro e wh ⟨rfl, hh⟩; have hs := held_step (B := w.heap.size + 2) (w0 := w1) (by first | assumption | exact held_refl | exact held_drewN _) hh (by assumption))
      | (go_at_call 23; refine (rcovers_any _ _ _ _ _ _ _ _ _ _ _ _ _ _ _).mono ?_; rintro e wh ⟨rfl, hh⟩; have hs := held_step (B := w.heap.size + 2) (w0 := w1) (by first | assumption | exact held_refl | exact held_drewN _) hh (by assumption))
      | (go_at_call 18; refine (age_any _ _ _).mono ?_; rintro e w' ⟨rfl, rfl⟩)
      | (go_at_call 19; refine (rage_any _ _ _).mono ?_; rintro e w' ⟨rfl, rfl⟩)
      | (go_at_call 20; refine (said_any _ _ _).mono ?_; rintro e w' ⟨rfl, rfl⟩)
      | (go_at_call 21; refine (rsaid_any _ _ _).mono ?_; rintro e w' ⟨rfl, rfl⟩)
      | (go_at_call 16; refine (held_any _ _).mono ?_; rintro e w' ⟨rfl, rfl⟩)
      | (go_at_call 14; refine (most_any _).mono ?_; rintro e w' ⟨rfl, rfl⟩))
    go_ret
    have hz := hs.1
    exact ⟨ret_bool (by simp), (by repeat (first | exact Below.refl _ _ | assumption | refine below_drewN ?_ _ | refine Below.drew ?_ | refine Below.alloc ?_ (by first | exact Nat.le_refl _ | (simp; done) | (simp at *; omega)) _ | refine Below.setCell ?_ (by first | exact Nat.le_refl _ | (simp; done) | (simp at *; omega)) _ | refine Below.trans ?_ (Below.mono (by assumption) (by first | exact Nat.le_refl _ | (simp; done) | (simp at *; omega)))))⟩
  obtain ⟨t1, t2⟩ := more_law f wh er (tk a) (tk b) _ (by omega) ha.1 ha.2 hb.1 hb.2 hc
  by_cases h3 : 1 + st % 3 = 3
  · have h3' : st % 3 = 2 := by omega
    have h4 : (1 + st % 3 == 3) = true := by simpa using h3
    clear t1 h3
    by_cases h5 : tk a = 1099511627776
    · rw [h5] at hc
      clear t2 h3'
      go_enter Try.func9, Try.ntmps9
      go_wp2_with fail
      refine (wakes_any _).mono ?_; rintro e w1 ⟨rfl, h1⟩
      have g1 : Below (w.heap.size + 2) _ w1 := h1.mono (by simp)
      have c1 := fun b o h => g1.cell (p := ⟨b, o, none⟩) h
      have f1 := fun b o h => g1.frozen (p := ⟨b, o, none⟩) h
      have hB := g1.size
      simp at hB
      go_wp2_with fail
      go_quiet ((go_at_call 16; first | exact quiet_add (held_any _ _) | exact quiet_same (held_any _ _)))
      go_wp2_with (first
        | (go_at_call 12; refine (of_any _ _ _ _).mono ?_; rintro e wh ⟨rfl, hh⟩; have hs := held_step (B := w.heap.size + 2) (w0 := w1) (by first | assumption | exact held_refl | exact held_drewN _) hh (by assumption))
        | (go_at_call 11; refine (until_any _ _ _ _ _ _ _ _ _ _ _ _ _ _).mono ?_; rintro e wh ⟨rfl, hh⟩; have hs := held_step (B := w.heap.size + 2) (w0 := w1) (by first | assumption | exact held_refl | exact held_drewN _) hh (by assumption))
        | (go_at_call 13; refine (runtil_any _ _ _ _ _ _ _ _ _ _ _ _ _ _).mono ?_; rintro e wh ⟨rfl, hh⟩; have hs := held_step (B := w.heap.size + 2) (w0 := w1) (by first | assumption | exact held_refl | exact held_drewN _) hh (by assumption))
        | (go_at_call 15; refine (state_any _ _ _ _ _ _ _ _ _ _ _ _ _ _).mono ?_; rintro e wh ⟨rfl, hh⟩; have hs := held_step (B := w.heap.size + 2) (w0 := w1) (by first | assumption | exact held_refl | exact held_drewN _) hh (by assumption))
        | (go_at_call 17; refine (rstate_any _ _ _ _ _ _ _ _ _ _ _ _ _ _).mono ?_; rintro e wh ⟨rfl, hh⟩; have hs := held_step (B := w.heap.size + 2) (w0 := w1) (by first | assumption | exact held_refl | exact held_drewN _) hh (by assumption))
        | (go_at_call 22; refine (covers_any _ _ _ _ _ _ _ _ _ _ _ _ _ _ _).mono ?_; rintro e wh ⟨rfl, hh⟩; have hs := held_step (B := w.heap.size + 2) (w0 := w1) (by first | assumption | exact held_refl | exact held_drewN _) hh (by assumption))
        | (go_at_call 23; refine (rcovers_any _ _ _ _ _ _ _ _ _ _ _ _ _ _ _).mono ?_; rintro e wh ⟨rfl, hh⟩; have hs := held_step (B := w.heap.size + 2) (w0 := w1) (by first | assumption | exact held_refl | exact held_drewN _) hh (by assumption))
        | (go_at_call 18; refine (age_any _ _ _).mono ?_; rintro e w' ⟨rfl, rfl⟩)
        | (go_at_call 19; refine (rage_any _ _ _).mono ?_; rintro e w' ⟨rfl, rfl⟩)
        | (go_at_call 20; refine (said_any _ _ _).mono ?_; rintro e w' ⟨rfl, rfl⟩)
        | (go_at_call 21; refine (rsaid_any _ _ _).mono ?_; rintro e w' ⟨rfl, rfl⟩)
        | (go_at_call 16; refine (held_any _ _).mono ?_; rintro e w' ⟨rfl, rfl⟩)
        | (go_at_call 14; refine (most_any _).mono ?_; rintro e w' ⟨rfl, rfl⟩))
      go_ret
      have hz := hs.1
      exact ⟨ret_bool (by simp), (by repeat (first | exact Below.refl _ _ | assumption | refine below_drewN ?_ _ | refine Below.drew ?_ | refine Below.alloc ?_ (by first | exact Nat.le_refl _ | (simp; done) | (simp at *; omega)) _ | refine Below.setCell ?_ (by first | exact Nat.le_refl _ | (simp; done) | (simp at *; omega)) _ | refine Below.trans ?_ (Below.mono (by assumption) (by first | exact Nat.le_refl _ | (simp; done) | (simp at *; omega)))))⟩
    · have h6 : (tk a == 1099511627776) = false := by simpa using h5
      have t3 := t2 (by omega)
      clear t2 h3' h5
      go_enter Try.func9, Try.ntmps9
      go_wp2_with fail
      refine (wakes_any _).mono ?_; rintro e w1 ⟨rfl, h1⟩
      have g1 : Below (w.heap.size + 2) _ w1 := h1.mono (by simp)
      have c1 := fun b o h => g1.cell (p := ⟨b, o, none⟩) h
      have f1 := fun b o h => g1.frozen (p := ⟨b, o, none⟩) h
      have hB := g1.size
      simp at hB
      go_wp2_with fail
      go_quiet ((go_at_call 16; first | exact quiet_add (held_any _ _) | exact quiet_same (held_any _ _)))
      go_wp2_with (first
        | (go_at_call 12; refine (of_any _ _ _ _).mono ?_; rintro e wh ⟨rfl, hh⟩; have hs := held_step (B := w.heap.size + 2) (w0 := w1) (by first | assumption | exact held_refl | exact held_drewN _) hh (by assumption))
        | (go_at_call 11; refine (until_any _ _ _ _ _ _ _ _ _ _ _ _ _ _).mono ?_; rintro e wh ⟨rfl, hh⟩; have hs := held_step (B := w.heap.size + 2) (w0 := w1) (by first | assumption | exact held_refl | exact held_drewN _) hh (by assumption))
        | (go_at_call 13; refine (runtil_any _ _ _ _ _ _ _ _ _ _ _ _ _ _).mono ?_; rintro e wh ⟨rfl, hh⟩; have hs := held_step (B := w.heap.size + 2) (w0 := w1) (by first | assumption | exact held_refl | exact held_drewN _) hh (by assumption))
        | (go_at_call 15; refine (state_any _ _ _ _ _ _ _ _ _ _ _ _ _ _).mono ?_; rintro e wh ⟨rfl, hh⟩; have hs := held_step (B := w.heap.size + 2) (w0 := w1) (by first | assumption | exact held_refl | exact held_drewN _) hh (by assumption))
        | (go_at_call 17; refine (rstate_any _ _ _ _ _ _ _ _ _ _ _ _ _ _).mono ?_; rintro e wh ⟨rfl, hh⟩; have hs := held_step (B := w.heap.size + 2) (w0 := w1) (by first | assumption | exact held_refl | exact held_drewN _) hh (by assumption))
        | (go_at_call 22; refine (covers_any _ _ _ _ _ _ _ _ _ _ _ _ _ _ _).mono ?_; rintro e wh ⟨rfl, hh⟩; have hs := held_step (B := w.heap.size + 2) (w0 := w1) (by first | assumption | exact held_refl | exact held_drewN _) hh (by assumption))
        | (go_at_call 23; refine (rcovers_any _ _ _ _ _ _ _ _ _ _ _ _ _ _ _).mono ?_; rintro e wh ⟨rfl, hh⟩; have hs := held_step (B := w.heap.size + 2) (w0 := w1) (by first | assumption | exact held_refl | exact held_drewN _) hh (by assumption))
        | (go_at_call 18; refine (age_any _ _ _).mono ?_; rintro e w' ⟨rfl, rfl⟩)
        | (go_at_call 19; refine (rage_any _ _ _).mono ?_; rintro e w' ⟨rfl, rfl⟩)
        | (go_at_call 20; refine (said_any _ _ _).mono ?_; rintro e w' ⟨rfl, rfl⟩)
        | (go_at_call 21; refine (rsaid_any _ _ _).mono ?_; rintro e w' ⟨rfl, rfl⟩)
        | (go_at_call 16; refine (held_any _ _).mono ?_; rintro e w' ⟨rfl, rfl⟩)
        | (go_at_call 14; refine (most_any _).mono ?_; rintro e w' ⟨rfl, rfl⟩))
      go_ret
      have hz := hs.1
      exact ⟨ret_bool (by simp), (by repeat (first | exact Below.refl _ _ | assumption | refine below_drewN ?_ _ | refine Below.drew ?_ | refine Below.alloc ?_ (by first | exact Nat.le_refl _ | (simp; done) | (simp at *; omega)) _ | refine Below.setCell ?_ (by first | exact Nat.le_refl _ | (simp; done) | (simp at *; omega)) _ | refine Below.trans ?_ (Below.mono (by assumption) (by first | exact Nat.le_refl _ | (simp; done) | (simp at *; omega)))))⟩
  · have h4 : (1 + st % 3 == 3) = false := by simpa using h3
    have t4 := t1 (by omega)
    clear t1
    by_cases h5 : tk a = 1099511627776
    · rw [h5] at hc t4
      clear t2
      go_enter Try.func9, Try.ntmps9
      go_wp2_with fail
      refine (wakes_any _).mono ?_; rintro e w1 ⟨rfl, h1⟩
      have g1 : Below (w.heap.size + 2) _ w1 := h1.mono (by simp)
      have c1 := fun b o h => g1.cell (p := ⟨b, o, none⟩) h
      have f1 := fun b o h => g1.frozen (p := ⟨b, o, none⟩) h
      have hB := g1.size
      simp at hB
      go_wp2_with fail
      go_quiet ((go_at_call 16; first | exact quiet_add (held_any _ _) | exact quiet_same (held_any _ _)))
      go_wp2_with (first
        | (go_at_call 12; refine (of_any _ _ _ _).mono ?_; rintro e wh ⟨rfl, hh⟩; have hs := held_step (B := w.heap.size + 2) (w0 := w1) (by first | assumption | exact held_refl | exact held_drewN _) hh (by assumption))
        | (go_at_call 11; refine (until_any _ _ _ _ _ _ _ _ _ _ _ _ _ _).mono ?_; rintro e wh ⟨rfl, hh⟩; have hs := held_step (B := w.heap.size + 2) (w0 := w1) (by first | assumption | exact held_refl | exact held_drewN _) hh (by assumption))
        | (go_at_call 13; refine (runtil_any _ _ _ _ _ _ _ _ _ _ _ _ _ _).mono ?_; rintro e wh ⟨rfl, hh⟩; have hs := held_step (B := w.heap.size + 2) (w0 := w1) (by first | assumption | exact held_refl | exact held_drewN _) hh (by assumption))
        | (go_at_call 15; refine (state_any _ _ _ _ _ _ _ _ _ _ _ _ _ _).mono ?_; rintro e wh ⟨rfl, hh⟩; have hs := held_step (B := w.heap.size + 2) (w0 := w1) (by first | assumption | exact held_refl | exact held_drewN _) hh (by assumption))
        | (go_at_call 17; refine (rstate_any _ _ _ _ _ _ _ _ _ _ _ _ _ _).mono ?_; rintro e wh ⟨rfl, hh⟩; have hs := held_step (B := w.heap.size + 2) (w0 := w1) (by first | assumption | exact held_refl | exact held_drewN _) hh (by assumption))
        | (go_at_call 22; refine (covers_any _ _ _ _ _ _ _ _ _ _ _ _ _ _ _).mono ?_; rintro e wh ⟨rfl, hh⟩; have hs := held_step (B := w.heap.size + 2) (w0 := w1) (by first | assumption | exact held_refl | exact held_drewN _) hh (by assumption))
        | (go_at_call 23; refine (rcovers_any _ _ _ _ _ _ _ _ _ _ _ _ _ _ _).mono ?_; rintro e wh ⟨rfl, hh⟩; have hs := held_step (B := w.heap.size + 2) (w0 := w1) (by first | assumption | exact held_refl | exact held_drewN _) hh (by assumption))
        | (go_at_call 18; refine (age_any _ _ _).mono ?_; rintro e w' ⟨rfl, rfl⟩)
        | (go_at_call 19; refine (rage_any _ _ _).mono ?_; rintro e w' ⟨rfl, rfl⟩)
        | (go_at_call 20; refine (said_any _ _ _).mono ?_; rintro e w' ⟨rfl, rfl⟩)
        | (go_at_call 21; refine (rsaid_any _ _ _).mono ?_; rintro e w' ⟨rfl, rfl⟩)
        | (go_at_call 16; refine (held_any _ _).mono ?_; rintro e w' ⟨rfl, rfl⟩)
        | (go_at_call 14; refine (most_any _).mono ?_; rintro e w' ⟨rfl, rfl⟩))
      go_ret
      have hz := hs.1
      exact ⟨ret_bool (by simp), (by repeat (first | exact Below.refl _ _ | assumption | refine below_drewN ?_ _ | refine Below.drew ?_ | refine Below.alloc ?_ (by first | exact Nat.le_refl _ | (simp; done) | (simp at *; omega)) _ | refine Below.setCell ?_ (by first | exact Nat.le_refl _ | (simp; done) | (simp at *; omega)) _ | refine Below.trans ?_ (Below.mono (by assumption) (by first | exact Nat.le_refl _ | (simp; done) | (simp at *; omega)))))⟩
    · have h6 : (tk a == 1099511627776) = false := by simpa using h5
      have t3 := t2 (by omega)
      clear t2 h5
      go_enter Try.func9, Try.ntmps9
      go_wp2_with fail
      refine (wakes_any _).mono ?_; rintro e w1 ⟨rfl, h1⟩
      have g1 : Below (w.heap.size + 2) _ w1 := h1.mono (by simp)
      have c1 := fun b o h => g1.cell (p := ⟨b, o, none⟩) h
      have f1 := fun b o h => g1.frozen (p := ⟨b, o, none⟩) h
      have hB := g1.size
      simp at hB
      go_wp2_with fail
      go_quiet ((go_at_call 16; first | exact quiet_add (held_any _ _) | exact quiet_same (held_any _ _)))
      go_wp2_with (first
        | (go_at_call 12; refine (of_any _ _ _ _).mono ?_; rintro e wh ⟨rfl, hh⟩; have hs := held_step (B := w.heap.size + 2) (w0 := w1) (by first | assumption | exact held_refl | exact held_drewN _) hh (by assumption))
        | (go_at_call 11; refine (until_any _ _ _ _ _ _ _ _ _ _ _ _ _ _).mono ?_; rintro e wh ⟨rfl, hh⟩; have hs := held_step (B := w.heap.size + 2) (w0 := w1) (by first | assumption | exact held_refl | exact held_drewN _) hh (by assumption))
        | (go_at_call 13; refine (runtil_any _ _ _ _ _ _ _ _ _ _ _ _ _ _).mono ?_; rintro e wh ⟨rfl, hh⟩; have hs := held_step (B := w.heap.size + 2) (w0 := w1) (by first | assumption | exact held_refl | exact held_drewN _) hh (by assumption))
        | (go_at_call 15; refine (state_any _ _ _ _ _ _ _ _ _ _ _ _ _ _).mono ?_; rintro e wh ⟨rfl, hh⟩; have hs := held_step (B := w.heap.size + 2) (w0 := w1) (by first | assumption | exact held_refl | exact held_drewN _) hh (by assumption))
        | (go_at_call 17; refine (rstate_any _ _ _ _ _ _ _ _ _ _ _ _ _ _).mono ?_; rintro e wh ⟨rfl, hh⟩; have hs := held_step (B := w.heap.size + 2) (w0 := w1) (by first | assumption | exact held_refl | exact held_drewN _) hh (by assumption))
        | (go_at_call 22; refine (covers_any _ _ _ _ _ _ _ _ _ _ _ _ _ _ _).mono ?_; rintro e wh ⟨rfl, hh⟩; have hs := held_step (B := w.heap.size + 2) (w0 := w1) (by first | assumption | exact held_refl | exact held_drewN _) hh (by assumption))
        | (go_at_call 23; refine (rcovers_any _ _ _ _ _ _ _ _ _ _ _ _ _ _ _).mono ?_; rintro e wh ⟨rfl, hh⟩; have hs := held_step (B := w.heap.size + 2) (w0 := w1) (by first | assumption | exact held_refl | exact held_drewN _) hh (by assumption))
        | (go_at_call 18; refine (age_any _ _ _).mono ?_; rintro e w' ⟨rfl, rfl⟩)
        | (go_at_call 19; refine (rage_any _ _ _).mono ?_; rintro e w' ⟨rfl, rfl⟩)
        | (go_at_call 20; refine (said_any _ _ _).mono ?_; rintro e w' ⟨rfl, rfl⟩)
        | (go_at_call 21; refine (rsaid_any _ _ _).mono ?_; rintro e w' ⟨rfl, rfl⟩)
        | (go_at_call 16; refine (held_any _ _).mono ?_; rintro e w' ⟨rfl, rfl⟩)
        | (go_at_call 14; refine (most_any _).mono ?_; rintro e w' ⟨rfl, rfl⟩))
      go_ret
      have hz := hs.1
      exact ⟨ret_bool (by simp), (by repeat (first | exact Below.refl _ _ | assumption | refine below_drewN ?_ _ | refine Below.drew ?_ | refine Below.alloc ?_ (by first | exact Nat.le_refl _ | (simp; done) | (simp at *; omega)) _ | refine Below.setCell ?_ (by first | exact Nat.le_refl _ | (simp; done) | (simp at *; omega)) _ | refine Below.trans ?_ (Below.mono (by assumption) (by first | exact Nat.le_refl _ | (simp; done) | (simp at *; omega)))))⟩

end Go.Proofs.Ytdhekcfkngkebaa
