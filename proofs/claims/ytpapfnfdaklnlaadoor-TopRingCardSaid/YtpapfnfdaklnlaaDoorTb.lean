/- The chapter's example of the sets of bytes: numbers as text; a span's text. -/
import Derived.Test.YtpapfnfdaklnlaaDoorTa
namespace Go.Proofs.YtpapfnfdaklnlaaDoor
set_option linter.unusedVariables false
open Go.RowKit

set_option maxHeartbeats 1000000 in
theorem small_2 (w : World) : Calls Tryd.prog 70 #[.int .i64 2] w fun e w' => e = .returned (.string ⟨#[50]⟩) ∧ w = w' := by
  go_enter Tryd.func70, Tryd.ntmps70
  go_wp2
  go_ret
  exact ⟨by kernel_rfl, rfl⟩
set_option maxHeartbeats 1000000 in
theorem small_5 (w : World) : Calls Tryd.prog 70 #[.int .i64 5] w fun e w' => e = .returned (.string ⟨#[53]⟩) ∧ w = w' := by
  go_enter Tryd.func70, Tryd.ntmps70
  go_wp2
  go_ret
  exact ⟨by kernel_rfl, rfl⟩
set_option maxHeartbeats 1000000 in
theorem inner_2 (w : World) : Calls Tryd.prog 50 #[.int .i64 2, .int .i64 10] w fun e w' => e = .returned (.string ⟨#[50]⟩) ∧ w = w' := by
  go_enter Tryd.func50, Tryd.ntmps50
  go_wp2_with (go_at_call 70; refine (small_2 _).mono ?_; rintro e w' ⟨rfl, rfl⟩)
  go_ret
  exact ⟨rfl, rfl⟩
set_option maxHeartbeats 1000000 in
theorem inner_5 (w : World) : Calls Tryd.prog 50 #[.int .i64 5, .int .i64 10] w fun e w' => e = .returned (.string ⟨#[53]⟩) ∧ w = w' := by
  go_enter Tryd.func50, Tryd.ntmps50
  go_wp2_with (go_at_call 70; refine (small_5 _).mono ?_; rintro e w' ⟨rfl, rfl⟩)
  go_ret
  exact ⟨rfl, rfl⟩
theorem fmt_2 (w : World) : Calls Tryd.prog 48 #[.int .i64 2, .int .i64 10] w fun e w' => e = .returned (.string ⟨#[50]⟩) ∧ w = w' := by
  go_enter Tryd.func48, Tryd.ntmps48
  go_wp2_with (go_at_call 50; refine (inner_2 _).mono ?_; rintro e w' ⟨rfl, rfl⟩)
  go_ret
  exact ⟨rfl, rfl⟩
theorem fmt_5 (w : World) : Calls Tryd.prog 48 #[.int .i64 5, .int .i64 10] w fun e w' => e = .returned (.string ⟨#[53]⟩) ∧ w = w' := by
  go_enter Tryd.func48, Tryd.ntmps48
  go_wp2_with (go_at_call 50; refine (inner_5 _).mono ?_; rintro e w' ⟨rfl, rfl⟩)
  go_ret
  exact ⟨rfl, rfl⟩
def dg (n : Int) : ByteArray := if n = 2 then ⟨#[50]⟩ else ⟨#[53]⟩
theorem fmt_d (n : Int) (h : n = 2 ∨ n = 5) (w : World) : Calls Tryd.prog 48 #[.int .i64 n, .int .i64 10] w fun e w' => e = .returned (.string (dg n)) ∧ w = w' := by
  rcases h with rfl | rfl
  · exact fmt_2 w
  · exact fmt_5 w
set_option maxHeartbeats 2000000 in
theorem span_text (w : World) : Calls Tryd.prog 35 #[.agg #[.int .i64 2, .int .i64 5]] w fun e w' => e = .returned (.string ⟨#[50, 45, 53]⟩) ∧ Below w.heap.size w w' := by
  go_enter Tryd.func35, Tryd.ntmps35
  go_wp2_with fail
  generalize hw0 : World.alloc w _ = w0
  have k0 : w0.cell? ⟨w.heap.size, 0, none⟩ = some (.int .i64 2) := by subst hw0; go_simp
  have k1 : w0.cell? ⟨w.heap.size, 1, none⟩ = some (.int .i64 5) := by subst hw0; go_simp
  have hB : w.heap.size < w0.heap.size := by subst hw0; simp
  have b0 : Below w.heap.size w w0 := by subst hw0; exact (by repeat (first | with_reducible exact Below.refl _ _ | with_reducible assumption | with_reducible refine below_drewN ?_ _ | with_reducible refine Below.drew ?_ | with_reducible refine Below.alloc ?_ (by first | exact Nat.le_refl _ | assumption | (simp; done) | omega | (simp at *; omega)) _ | with_reducible refine Below.setCell ?_ (by first | exact Nat.le_refl _ | assumption | (simp; done) | omega | (simp at *; omega)) _ | with_reducible refine Below.trans ?_ (Below.mono (by with_reducible assumption) (by first | exact Nat.le_refl _ | assumption | (simp; done) | omega | (simp at *; omega)))))
  clear hw0
  go_wp2_with (first
    | (go_at_call 28; refine (span_right 2 5 (by omega) (by omega) (by omega) _).mono ?_; rintro e w1 ⟨rfl, b1⟩; have k10 := (bcell b1).1 _ 0 hB; have k11 := (bcell b1).1 _ 1 hB; have hB1 := Nat.lt_of_lt_of_le hB b1.size; rw [k0] at k10; rw [k1] at k11)
    | (go_at_call 49; refine (span_open 2 5 (by omega) _).mono ?_; rintro e w2 ⟨rfl, b2⟩; have k21 := (bcell b2).1 _ 1 hB1; rw [k11] at k21)
    | (go_at_call 48; refine (fmt_d _ (by decide) _).mono ?_; rintro e w' ⟨rfl, rfl⟩))
  go_ret
  exact ⟨by kernel_rfl, (by repeat (first | with_reducible exact Below.refl _ _ | with_reducible assumption | with_reducible refine below_drewN ?_ _ | with_reducible refine Below.drew ?_ | with_reducible refine Below.alloc ?_ (by first | exact Nat.le_refl _ | assumption | (simp; done) | omega | (simp at *; omega)) _ | with_reducible refine Below.setCell ?_ (by first | exact Nat.le_refl _ | assumption | (simp; done) | omega | (simp at *; omega)) _ | with_reducible refine Below.trans ?_ (Below.mono (by with_reducible assumption) (by first | exact Nat.le_refl _ | assumption | (simp; done) | omega | (simp at *; omega)))))⟩
end Go.Proofs.YtpapfnfdaklnlaaDoor
