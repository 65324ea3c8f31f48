/- The ring's small functions: comparisons. -/
import Derived.Test.YtpapfnfdaklnlaaDoorTi
namespace Go.Proofs.YtpapfnfdaklnlaaDoor
set_option linter.unusedVariables false
open Go.RowKit

def cmpU (a b : Int) : Int := if a < b then -1 else if b < a then 1 else 0
theorem nan_u (a : Int) (w : World) : Calls Tryd.prog 40 #[.int .u64 a] w fun e w' => e = .returned (.bool false) ∧ w = w' := by
  go_enter Tryd.func40, Tryd.ntmps40
  go_wp2
  go_ret
  exact ⟨by simp, rfl⟩
set_option maxHeartbeats 1000000 in
theorem cmp_u (a b : Int) (w : World) : Calls Tryd.prog 23 #[.int .u64 a, .int .u64 b] w fun e w' => e = .returned (.int .i64 (cmpU a b)) ∧ w = w' := by
  go_enter Tryd.func23, Tryd.ntmps23
  rcases Int.lt_trichotomy a b with h | h | h
  · have e : cmpU a b = -1 := by unfold cmpU; rw [if_pos h]
    rw [e]
    go_wp2_with (go_at_call 40; refine (nan_u _ _).mono ?_; rintro e w' ⟨rfl, rfl⟩)
    go_ret
    exact ⟨rfl, rfl⟩
  · have e : cmpU a b = 0 := by unfold cmpU; rw [if_neg (by omega), if_neg (by omega)]
    rw [e]
    subst h
    go_wp2_with (go_at_call 40; refine (nan_u _ _).mono ?_; rintro e w' ⟨rfl, rfl⟩)
    go_ret
    exact ⟨rfl, rfl⟩
  · have e : cmpU a b = 1 := by unfold cmpU; rw [if_neg (by omega), if_pos h]
    rw [e]
    have h3 : ¬ a < b := by omega
    go_wp2_with (go_at_call 40; refine (nan_u _ _).mono ?_; rintro e w' ⟨rfl, rfl⟩)
    go_ret
    exact ⟨rfl, rfl⟩
def cmpS (a b : List UInt8) : Int := if Op.bytesLess a b = true then -1 else if a == b then 0 else 1
theorem nan_s (a : ByteArray) (w : World) : Calls Tryd.prog 41 #[.string a] w fun e w' => e = .returned (.bool false) ∧ w = w' := by
  go_enter Tryd.func41, Tryd.ntmps41
  go_wp2
  go_ret
  exact ⟨by simp, rfl⟩
set_option maxHeartbeats 1000000 in
theorem cmp_s (a b : ByteArray) (w : World) : Calls Tryd.prog 24 #[.string a, .string b] w fun e w' => e = .returned (.int .i64 (cmpS a.toList b.toList)) ∧ w = w' := by
  by_cases h1 : Op.bytesLess a.toList b.toList = true
  · have e : cmpS a.toList b.toList = -1 := by unfold cmpS; rw [if_pos h1]
    rw [e]
    clear e
    go_enter Tryd.func24, Tryd.ntmps24
    go_wp2_with (go_at_call 41; refine (nan_s _ _).mono ?_; rintro e w' ⟨rfl, rfl⟩)
    go_ret
    exact ⟨rfl, rfl⟩
  · have h1' : Op.bytesLess a.toList b.toList = false := by simpa using h1
    by_cases h2 : (a.toList == b.toList) = true
    · have e : cmpS a.toList b.toList = 0 := by unfold cmpS; rw [if_neg h1, if_pos h2]
      rw [e]
      clear e h1
      go_enter Tryd.func24, Tryd.ntmps24
      go_wp2_with (go_at_call 41; refine (nan_s _ _).mono ?_; rintro e w' ⟨rfl, rfl⟩)
      go_ret
      exact ⟨rfl, rfl⟩
    · have e : cmpS a.toList b.toList = 1 := by unfold cmpS; rw [if_neg h1, if_neg h2]
      have h2' : (a.toList == b.toList) = false := by simpa using h2
      rw [e]
      clear e h1 h2
      go_enter Tryd.func24, Tryd.ntmps24
      go_wp2_with (go_at_call 41; refine (nan_s _ _).mono ?_; rintro e w' ⟨rfl, rfl⟩)
      go_ret
      exact ⟨rfl, rfl⟩
/-- 'the first of two numbers that is not nought'. -/
def orI (a b : Int) : Int := if a = 0 then b else a
set_option maxHeartbeats 2000000 in
theorem or_two (a b : Int) (g : Nat) (w : World) (k0 : w.cell? ⟨g, 0, none⟩ = some (.int .i64 a)) (k1 : w.cell? ⟨g, 1, none⟩ = some (.int .i64 b)) : Calls Tryd.prog 22 #[.slice (some ⟨g, 0, none⟩) 2 2] w fun e w' => e = .returned (.int .i64 (orI a b)) ∧ w = w' := by
  by_cases ha : a = 0
  · have e : orI a b = b := by unfold orI; rw [if_pos ha]
    rw [e]
    subst ha
    clear e
    by_cases hb : b = 0
    · subst hb
      go_enter Tryd.func22, Tryd.ntmps22
      go_wp2
      refine wp_loop_rounds 3 ?_
      rw [rounds_succ]
      go_wp2
      rw [rounds_succ]
      go_wp2
      rw [rounds_succ]
      go_wp2
      go_ret
      exact ⟨rfl, rfl⟩
    · go_enter Tryd.func22, Tryd.ntmps22
      go_wp2
      refine wp_loop_rounds 3 ?_
      rw [rounds_succ]
      go_wp2
      rw [rounds_succ]
      go_wp2
      go_ret
      exact ⟨rfl, rfl⟩
  · have e : orI a b = a := by unfold orI; rw [if_neg ha]
    rw [e]
    go_enter Tryd.func22, Tryd.ntmps22
    go_wp2
    refine wp_loop_rounds 3 ?_
    rw [rounds_succ]
    go_wp2
    go_ret
    exact ⟨rfl, rfl⟩
end Go.Proofs.YtpapfnfdaklnlaaDoor
