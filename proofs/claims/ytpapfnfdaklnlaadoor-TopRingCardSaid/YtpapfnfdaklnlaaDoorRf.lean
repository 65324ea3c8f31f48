/- The ring's small functions: what may be a name; a number as a text. -/
import Derived.Test.YtpapfnfdaklnlaaDoorRe
namespace Go.Proofs.YtpapfnfdaklnlaaDoor
set_option linter.unusedVariables false
open Go.RowKit

def nameOf (c d : UInt8) : ByteArray := ⟨#[c, d]⟩
set_option maxHeartbeats 2000000 in
theorem right_two (c d : UInt8) (w : World) (h1 : 33 ≤ c.toNat ∧ c.toNat ≤ 126) (h2 : 33 ≤ d.toNat ∧ d.toNat ≤ 126) : Calls Tryd.prog 17 #[.string (nameOf c d)] w fun e w' => e = .returned (.bool true) ∧ w = w' := by
  obtain ⟨s, hs⟩ : ∃ s, nameOf c d = s := ⟨_, rfl⟩
  have hz : s.size = 2 := by rw [← hs]; rfl
  have i0 : ∀ h : 0 < s.size, s[0]'h = c := by intro h; subst hs; rfl
  have i1 : ∀ h : 1 < s.size, s[1]'h = d := by intro h; subst hs; rfl
  rw [hs]
  clear hs
  have a0 : (s[0]'(by omega)).toNat = c.toNat := by rw [i0]
  have a1 : (s[1]'(by omega)).toNat = d.toNat := by rw [i1]
  go_enter Tryd.func17, Tryd.ntmps17
  go_wp2
  refine wp_loop_rounds 3 ?_
  rw [rounds_succ]
  go_wp2
  rw [rounds_succ]
  go_wp2
  rw [rounds_succ]
  go_wp2
  go_ret
  exact ⟨rfl, rfl⟩
set_option maxHeartbeats 1000000 in
theorem ring_new (w : World) : Calls Tryd.prog 9 #[.int .i64 8] w fun e w' => e = .returned (.tuple #[.pointer (some ⟨w.heap.size, 0, none⟩), .int .i64 0]) ∧ w' = w.alloc (Obj.cells #[.int .i64 8, .map none, .slice none 0 0] 58) := by
  go_enter Tryd.func9, Tryd.ntmps9
  go_wp2
  go_ret2
  exact ⟨rfl, rfl⟩
end Go.Proofs.YtpapfnfdaklnlaaDoor
