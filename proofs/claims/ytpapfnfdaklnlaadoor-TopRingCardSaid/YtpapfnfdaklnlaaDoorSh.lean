/- Hashes; the reference's small functions; the chapter's example. -/
import Derived.Test.YtpapfnfdaklnlaaDoorSn
namespace Go.Proofs.YtpapfnfdaklnlaaDoor
set_option linter.unusedVariables false
open Go.RowKit

def hStep (h c : Int) : Int := IntKind.u64.wrap (bits .xor .u64 h c * 1099511628211)
/-- The hash of the first k bytes. -/
def hashF (l : List UInt8) : Int := l.foldl (fun h c => hStep h (c.toNat : Int)) 14695981039346656037

theorem wrap_byte (c : UInt8) : IntKind.u64.wrap (c.toNat : Int) = (c.toNat : Int) := by have := c.toNat_lt; exact IntWalk.u64_in _ (by omega)
theorem hash_snoc (l : List UInt8) (c : UInt8) : hashF (l ++ [c]) = hStep (hashF l) (c.toNat : Int) := by simp [hashF]
theorem take_snoc (s : ByteArray) (k : Nat) (h : k < s.size) : s.data.toList.take (k + 1) = s.data.toList.take k ++ [s[k]] := by
  rw [List.take_succ_eq_append_getElem (by simpa using h)]; rfl

set_option maxHeartbeats 400000 in
theorem hash_any (s : ByteArray) (w : World) (hs : s.size ≤ maxLen) :
    Calls Tryd.prog 18 #[.string s] w fun e w' => e = .returned (.int .u64 (hashF s.data.toList)) ∧ w = w' := by
  unfold maxLen at hs
  go_enter Tryd.func18, Tryd.ntmps18
  go_wp2
  go_loop [3, 7] (fun h i => ∃ k : Nat, k ≤ s.size ∧ i = .int .i64 k ∧ h = .int .u64 (hashF (s.data.toList.take k))) (fun _ i => s.size - (intOf i).toNat)
  case atStart => exact ⟨0, Nat.zero_le _, rfl, rfl⟩
  case round =>
    obtain ⟨k, hk, rfl, rfl⟩ := hrel
    by_cases hlt : k < s.size
    · have hsn := hash_snoc (s.data.toList.take k) s[k]
      rw [← take_snoc s k hlt] at hsn
      have HS := Lib.hid hsn
      clear hsn
      go_wp2
      go_round
      case rel => exact ⟨k + 1, by omega, by go_num, by rw [HS.out, hStep, wrap_byte]⟩
      case measure => simp [intOf]; omega
    · go_wp2
      go_ret
      exact ⟨ret_int (by rw [List.take_of_length_le (by simp; omega)]), rfl⟩

theorem leastF_congr {T T' : Nat → Nat → Int} {W n : Nat} (h : ∀ i, i < n → ∀ j, j < W → T i j = T' i j) (hW : 0 < W) (key : Int) : ∀ k, k ≤ n → leastF T W key k = leastF T' W key k
  | 0, _ => rfl
  | 1, hk => h 0 (by omega) _ (mixF_lt _ _ _ hW)
  | k + 2, hk => by
    have e := leastF_congr h hW key (k + 1) (by omega)
    have e2 := h (k + 1) (by omega) _ (mixF_lt key (k + 1) W hW)
    simp only [leastF, e, e2]

/-- A key alone: its counter in each row holds c, all others 0. -/
def lone (key : Int) (W n : Nat) (c : Int) : Nat → Nat → Int := fun i j => if i < n ∧ j = mixF key i W then c else 0
theorem bump_lone (key : Int) (W n : Nat) (c : Int) : bump (lone key W n c) W key n = lone key W n (c + 1) := by
  funext i j; unfold bump lone; split <;> simp
theorem halve_lone (key : Int) (W n : Nat) (c : Int) : halve (lone key W n c) = lone key W n (c / 2) := by
  funext i j; unfold halve lone; split <;> simp
theorem lone_zero (key : Int) (W n : Nat) : lone key W n 0 = fun _ _ => 0 := by funext i j; unfold lone; split <;> rfl
theorem least_lone (key : Int) (W n : Nat) (c : Int) : ∀ k, 0 < k → k ≤ n → leastF (lone key W n c) W key k = c
  | 0, h, _ => by omega
  | 1, _, hk => by simp [leastF, lone]; omega
  | k + 2, _, hk => by
    have e := least_lone key W n c (k + 1) (by omega) (by omega)
    have e2 : lone key W n c (k + 1) (mixF key (k + 1) W) = c := by simp [lone]; omega
    simp only [leastF, e, e2]; split <;> rfl
theorem lone_bd (key : Int) (W n : Nat) (c : Int) (h : 0 ≤ c ∧ c ≤ 4611686018427387904) (i j : Nat) : 0 ≤ lone key W n c i j ∧ lone key W n c i j ≤ 4611686018427387904 := by unfold lone; split <;> omega

end Go.Proofs.YtpapfnfdaklnlaaDoor
