/- A small number as a text. -/
import Derived.Test.YtpapfnfdaklnlaaDoorRe
namespace Go.Proofs.YtpapfnfdaklnlaaDoor
set_option linter.unusedVariables false
open Go.RowKit

set_option maxHeartbeats 2000000 in
set_option maxRecDepth 100000 in
theorem small_any (n : Int) (h0 : 0 ≤ n) (h1 : n < 100) (w : World) : Calls Tryd.prog 70 #[.int .i64 n] w fun e w' => (∃ s : ByteArray, e = .returned (.string s) ∧ s.size ≤ 2) ∧ w = w' := by
  obtain ⟨k, rfl⟩ := Int.eq_ofNat_of_zero_le h0
  by_cases h : k < 10
  · go_enter Tryd.func70, Tryd.ntmps70
    go_wp2
    go_ret
    refine ⟨⟨_, rfl, ?_⟩, rfl⟩
    rw [ByteArray.size_extract]; omega
  · go_enter Tryd.func70, Tryd.ntmps70
    go_wp2
    go_ret
    refine ⟨⟨_, rfl, ?_⟩, rfl⟩
    rw [ByteArray.size_extract]; omega
set_option maxHeartbeats 1000000 in
theorem inner_any (n : Int) (h0 : 0 ≤ n) (h1 : n < 100) (w : World) : Calls Tryd.prog 50 #[.int .i64 n, .int .i64 10] w fun e w' => (∃ s : ByteArray, e = .returned (.string s) ∧ s.size ≤ 2) ∧ w = w' := by
  go_enter Tryd.func50, Tryd.ntmps50
  go_wp2_with fail
  refine (small_any n h0 h1 _).mono ?_
  rintro e w' ⟨⟨s, rfl, hs⟩, rfl⟩
  go_wp2
  go_ret
  exact ⟨⟨s, rfl, hs⟩, rfl⟩
theorem itoa_in (n : Int) (h0 : 0 ≤ n) (h1 : n < 100) (w : World) : Calls Tryd.prog 37 #[.int .i64 n] w fun e w' => (∃ s : ByteArray, e = .returned (.string s) ∧ s.size ≤ 2) ∧ w = w' := by
  go_enter Tryd.func37, Tryd.ntmps37
  go_wp2_with fail
  refine (inner_any n h0 h1 _).mono ?_
  rintro e w' ⟨⟨s, rfl, hs⟩, rfl⟩
  go_wp2
  go_ret
  exact ⟨⟨s, rfl, hs⟩, rfl⟩
theorem itoa_any (n : Int) (h0 : 0 ≤ n) (h1 : n < 100) (w : World) : Calls Tryd.prog 19 #[.int .i64 n] w fun e w' => (∃ s : ByteArray, e = .returned (.string s) ∧ s.size ≤ 2) ∧ w = w' := by
  go_enter Tryd.func19, Tryd.ntmps19
  go_wp2_with fail
  refine (itoa_in n h0 h1 _).mono ?_
  rintro e w' ⟨⟨s, rfl, hs⟩, rfl⟩
  go_wp2
  go_ret
  exact ⟨⟨s, rfl, hs⟩, rfl⟩
end Go.Proofs.YtpapfnfdaklnlaaDoor
