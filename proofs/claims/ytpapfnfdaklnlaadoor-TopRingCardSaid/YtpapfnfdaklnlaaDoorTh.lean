/- The chapter's example of the sets of bytes: the set's text, and the example itself. -/
import Derived.Test.YtpapfnfdaklnlaaDoorTg
namespace Go.Proofs.YtpapfnfdaklnlaaDoor
set_option linter.unusedVariables false
open Go.RowKit

set_option maxHeartbeats 4000000 in
set_option maxRecDepth 100000 in
theorem string_txt (q g c : Nat) (p : Value) (w : World) (h : Bu w q p (.slice (some ⟨g, 0, none⟩) 3 c)) (hr : w.ownsRow (q + 1) 5 1 (.slice (some ⟨g, 0, none⟩) 3 c) 3 (Lib.strCells txt)) : Calls Tryd.prog 36 #[.pointer (some ⟨q, 0, none⟩)] w fun e w' => e = .returned (.string txt) ∧ Below q w w' := by
  obtain ⟨cur, hbg, hg, hnc, hcm, hcs⟩ : ∃ cur, q + 1 ≤ g ∧ w.heap[g]? = some (.cells cur 5 (0, 0)) ∧ 3 ≤ c ∧ c ≤ maxLen ∧ cur.size = c * 1 := by
    rcases hr.2 with ⟨_, hz⟩ | ⟨g', cap, cur, hv, hb, hgg, h1, h2, h3, _⟩
    · exact absurd hz (by decide)
    · cases hv; exact ⟨cur, hb, hgg, h1, h2, h3⟩
  have c1 : w.drew.cell? ⟨q, 1, none⟩ = some (.slice (some ⟨g, 0, none⟩) 3 c) := h.cells.2.1
  have hSD : (Builtin.unsafeSliceData_ #[32] 98 #[.slice (some ⟨g, 0, none⟩) 3 c]).run Tryd.prog w.drew = .ok (.pointer (some ⟨g, 0, none⟩)) w.drew :=
    Lib.run_unsafeSliceData_row _ _ _ _ _ _ (by omega)
  have hUS : (Builtin.unsafeString_ #[98, 3] 9 #[.pointer (some ⟨g, 0, none⟩), .int .i64 3]).run Tryd.prog w.drew = .ok (.string txt) (w.drew.freeze ⟨g, 0, none⟩ 3) := by
    refine Lib.run_unsafeString_row w.drew 98 3 9 5 Tryd.underlying98 cellsByte g cur.size (by have hg' : w.drew.heap[g]? = some (.cells cur 5 (0, 0)) := hg; simp [World.shape?, hg']) [50, 45, 53] (by decide) (by simp; omega) (by decide) ?_
    intro j x hx
    have hj : (Lib.strCells txt)[j]? = some (.int .u8 x.toNat) := by
      match j, hx with
      | 0, hx => simp at hx; subst hx; rfl
      | 1, hx => simp at hx; subst hx; rfl
      | 2, hx => simp at hx; subst hx; rfl
    have ej : (⟨g, 0, none⟩ : Addr).add j = ⟨g, j, none⟩ := by simp [Addr.add]; intro h; omega
    rw [ej]
    exact (own_cell hr hj).1
  have mixed : Tryd.prog.follows Departure.mixedOrders = true := by kernel_rfl
  go_enter Tryd.func36, Tryd.ntmps36
  go_wp2
  go_region_o
  all_goals (go_wp2; go_ret; exact ⟨rfl, Lib.below_freeze (Below.drew (Below.refl q w)) (p := ⟨g, 0, none⟩) (by simp only; omega) _⟩)
end Go.Proofs.YtpapfnfdaklnlaaDoor
