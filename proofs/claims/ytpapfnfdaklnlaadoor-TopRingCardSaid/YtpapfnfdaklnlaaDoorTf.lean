/- The chapter's example of the sets of bytes: the library's builder at one short text. -/
import Derived.Test.YtpapfnfdaklnlaaDoorTe
import Derived.Lib.Strings
import Derived.Lib.Slices
import Derived.Lib.Walk
import Derived.Lib.Builder
import Derived.Lib.AppendStr
import Derived.Lib.UnsafeStr
import Derived.Lib.MakeNoZero
import Derived.Laws.Externs
import Derived.Shelf.RegionOpenPlain
namespace Go.Proofs.YtpapfnfdaklnlaaDoor
set_option linter.unusedVariables false
open Go.RowKit

theorem sizeBu : (Tryd.prog.info? 79).map (·.size) = some 2 := by kernel_rfl
theorem liesBu : liesAt Tryd.prog Tryd.prog.depth 79 (2 / Tryd.prog.cellsOf 79) 0 79 1 = true := by kernel_rfl
theorem infoByte : (Tryd.prog.info? 5).map (fun i => (i.zero, i.size, i.bytes)) = some (some (.int .u8 0), 1, 1) := by kernel_rfl
theorem cellsByte : Tryd.prog.cellsOf 5 = 1 := by kernel_rfl
theorem info_three {P : Program} {t : TypeId} {z : Value} {a b : Nat} (h : (P.info? t).map (fun i => (i.zero, i.size, i.bytes)) = some (some z, a, b)) : ∃ i, P.info? t = some i ∧ i.zero = some z ∧ i.size = a ∧ i.bytes = b := by
  cases hi : P.info? t with
  | none => rw [hi] at h; simp at h
  | some i => rw [hi] at h; simp at h; exact ⟨i, rfl, h⟩
def Bu (w : World) (q : Nat) (p v : Value) : Prop := w.heap[q]? = some (.cells #[p, v] 79 (0, 0))

set_option maxHeartbeats 4000000 in
set_option maxRecDepth 100000 in
theorem copy_new (q : Nat) (v : Value) (w : World) (h : Bu w q (.pointer none) v) : Calls Tryd.prog 47 #[.pointer (some ⟨q, 0, none⟩)] w fun e w' => e = .returned (.tuple #[]) ∧ w' = w.setCell ⟨q, 0, none⟩ (.pointer (some ⟨q, 0, none⟩)) := by
  have h0 : w.cell? ⟨q, 0, none⟩ = some (.pointer none) := by rw [Lib.cell_of_heap h]; rfl
  have hf : w.frozen? ⟨q, 0, none⟩ = false := Lib.frozen_of_heap h 0
  have hsh : w.shape? q = some (79, 2) := by unfold Bu at h; simp [World.shape?, h]
  obtain ⟨j, hj, hjs⟩ := Option.map_eq_some_iff.1 sizeBu
  go_enter Tryd.func47, Tryd.ntmps47
  go_wp2
  rw [Lib.run_to_unsafe w ⟨q, 0, none⟩ Tryd.underlying77 Tryd.underlying113 hj (by rw [hjs]; decide) hsh (Nat.zero_lt_succ 1)]
  simp only [Result.andThen]
  rw [Oper.upon_value]
  go_wp2
  rw [run_callFunc_extern Tryd.func69 (by kernel_rfl) (by kernel_rfl) (by kernel_rfl) (e := Extern.AbiNoEscape.same) (by kernel_rfl)]
  rw [Lib.run_noEscape]
  simp only [Result.andThen]
  rw [Oper.upon_value]
  go_wp2
  rw [Lib.run_from_unsafe w ⟨q, 0, none⟩ Tryd.underlying113 Tryd.underlying77 hj hsh liesBu]
  simp only [Result.andThen]
  rw [Oper.upon_value]
  go_wp2
  go_end0
  exact ⟨rfl, rfl⟩
end Go.Proofs.YtpapfnfdaklnlaaDoor
