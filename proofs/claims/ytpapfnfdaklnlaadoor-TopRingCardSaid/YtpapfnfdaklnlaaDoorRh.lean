/- What Remove asks of each point. -/
import Derived.Test.YtpapfnfdaklnlaaDoorRe
namespace Go.Proofs.YtpapfnfdaklnlaaDoor
set_option linter.unusedVariables false
open Go.RowKit

set_option maxHeartbeats 1000000 in
theorem del_pt (x : Pt) (b : Nat) (m : ByteArray) (w : World) (hm : w.cell? ⟨b, 0, none⟩ = some (.string m)) : Calls Tryd.prog 27 #[.agg #[.int .u64 x.1, .string x.2], .pointer (some ⟨b, 0, none⟩)] w fun e w' => e = .returned (.bool (x.2.toList == m.toList)) ∧ Below w.heap.size w w' := by
  obtain ⟨x1, x2⟩ := x
  have hb := cell_lt hm
  simp only
  go_enter Tryd.func27, Tryd.ntmps27
  go_wp2
  go_ret
  exact ⟨rfl, (by repeat (first | with_reducible exact Below.refl _ _ | with_reducible assumption | with_reducible refine below_drewN ?_ _ | with_reducible refine Below.drew ?_ | with_reducible refine Below.alloc ?_ (by first | exact Nat.le_refl _ | assumption | (simp; done) | omega | (simp at *; omega)) _ | with_reducible refine Below.setCell ?_ (by first | exact Nat.le_refl _ | assumption | (simp; done) | omega | (simp at *; omega)) _ | with_reducible refine Below.trans ?_ (Below.mono (by with_reducible assumption) (by first | exact Nat.le_refl _ | assumption | (simp; done) | omega | (simp at *; omega)))))⟩
end Go.Proofs.YtpapfnfdaklnlaaDoor
