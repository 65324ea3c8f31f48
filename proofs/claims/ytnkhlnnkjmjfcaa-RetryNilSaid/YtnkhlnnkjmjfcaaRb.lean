/- The laws of retry. -/
import Derived.Test.YtnkhlnnkjmjfcaaRa
namespace Go.Proofs.Ytnkhlnnkjmjfcaa
set_option linter.unusedVariables false
open Go.RowKit

set_option maxHeartbeats 1000000 in
theorem retryNil_any (now : Int) (x : Bool) (w : World) :
    Calls Try.prog 6 #[.int .i64 now, .bool x] w fun e w' => e = .returned (.bool true) ∧ Below w.heap.size w w' := by
  go_enter Try.func6, Try.ntmps6
  go_wp2_with fail
  refine (alive_any _).mono ?_; rintro e w1 ⟨rfl, g1⟩
  go_wp2_with (first | (go_at_call 11; refine (fail_nil _ _).mono ?_; rintro e w' ⟨rfl, rfl⟩) | (go_at_call 13; refine (good_nil _).mono ?_; rintro e w' ⟨rfl, rfl⟩) | (go_at_call 21; refine (tell_nil _ _ _).mono ?_; rintro e w' ⟨rfl, rfl⟩) | (go_at_call 15; refine (ready_nil _ _).mono ?_; (rintro e w' ⟨rfl, n, rfl⟩)) | (go_at_call 17; refine (left_nil _).mono ?_; (rintro e w' ⟨rfl, n, rfl⟩)) | (go_at_call 22; refine (may_nil _ _).mono ?_; (rintro e w' ⟨rfl, n, rfl⟩)))
  go_ret
  have b1 := g1.below
  exact ⟨ret_bool (by simp), (by repeat (first | with_reducible exact Below.refl _ _ | with_reducible assumption | with_reducible refine below_drewN ?_ _ | with_reducible refine Below.drew ?_ | with_reducible refine Below.alloc ?_ (by first | exact Nat.le_refl _ | assumption | (simp; done) | omega | (simp at *; omega)) _ | with_reducible refine Below.setCell ?_ (by first | exact Nat.le_refl _ | assumption | (simp; done) | omega | (simp at *; omega)) _ | with_reducible refine Below.trans ?_ (Below.mono (by with_reducible assumption) (by first | exact Nat.le_refl _ | assumption | (simp; done) | omega | (simp at *; omega)))))⟩

end Go.Proofs.Ytnkhlnnkjmjfcaa
