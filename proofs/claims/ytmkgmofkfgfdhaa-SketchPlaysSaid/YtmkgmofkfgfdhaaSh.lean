/- Hashes; the reference's small functions; the chapter's example. -/
import Derived.Test.YtmkgmofkfgfdhaaSn
namespace Go.Proofs.Ytmkgmofkfgfdhaa
set_option linter.unusedVariables false
open Go.RowKit

def hStep (h c : Int) : Int := IntKind.u64.wrap (bits .xor .u64 h c * 1099511628211)
/-- The hash of the first k bytes. -/
def hashF (l : List UInt8) : Int := l.foldl (fun h c => hStep h (c.toNat : Int)) 14695981039346656037

theorem wrap_byte (c : UInt8) : IntKind.u64.wrap (c.toNat : Int) = (c.toNat : Int) := by have := c.toNat_lt; exact IntWalk.u64_in _ (by omega)
theorem hash_snoc (l : List UInt8) (c : UInt8) : hashF (l ++ [c]) = hStep (hashF l) (c.toNat : Int) := by simp [hashF]
theorem take_snoc (s : ByteArray) (k : Nat) (h : k < s.size) : s.data.toList.take (k + 1) = s.data.toList.take k ++ [s[k]] := by
  rw [List.take_succ_eq_append_getElem (by simpa using h)]; rfl

set_option maxHeartbeats 400000 in
theorem hash_any (s : ByteArray) (w : World) (hs : s.size ≤ maxLen) :
    Calls Try.prog 20 #[.string s] w fun e w' => e = .returned (.int .u64 (hashF s.data.toList)) ∧ w = w' := by
  unfold maxLen at hs
  go_enter Try.func20, Try.ntmps20
  go_wp2
  go_loop [3, 7] (fun h i => ∃ k : Nat, k ≤ s.size ∧ i = .int .i64 k ∧ h = .int .u64 (hashF (s.data.toList.take k))) (fun _ i => s.size - (intOf i).toNat)
  case atStart => exact ⟨0, Nat.zero_le _, rfl, rfl⟩
  case round =>
    obtain ⟨k, hk, rfl, rfl⟩ := hrel
    by_cases hlt : k < s.size
    · have hsn := hash_snoc (s.data.toList.take k) s[k]
      rw [← take_snoc s k hlt] at hsn
      have HS := Lib.hid hsn
      clear hsn
      go_wp2
      go_round
      case rel => exact ⟨k + 1, by omega, by go_num, by rw [HS.out, hStep, wrap_byte]⟩
      case measure => simp [intOf]; omega
    · go_wp2
      go_ret
      exact ⟨ret_int (by rw [List.take_of_length_le (by simp; omega)]), rfl⟩

set_option maxHeartbeats 400000 in
theorem rhash_any (s : ByteArray) (w : World) (hs : s.size ≤ maxLen) :
    Calls Try.prog 21 #[.string s] w fun e w' => e = .returned (.int .u64 (hashF s.data.toList)) ∧ w = w' := by
  unfold maxLen at hs
  go_enter Try.func21, Try.ntmps21
  go_wp2
  go_loop [3, 4] (fun h i => ∃ k : Nat, k ≤ s.size ∧ i = .int .i64 k ∧ h = .int .u64 (hashF (s.data.toList.take k))) (fun _ i => s.size - (intOf i).toNat)
  case atStart => exact ⟨0, Nat.zero_le _, rfl, rfl⟩
  case round =>
    obtain ⟨k, hk, rfl, rfl⟩ := hrel
    by_cases hlt : k < s.size
    · have hsn := hash_snoc (s.data.toList.take k) s[k]
      rw [← take_snoc s k hlt] at hsn
      have HS := Lib.hid hsn
      clear hsn
      go_wp2
      go_round
      case rel => exact ⟨k + 1, by omega, by go_num, by rw [HS.out, hStep, wrap_byte]⟩
      case measure => simp [intOf]; omega
    · go_wp2
      go_ret
      exact ⟨ret_int (by rw [List.take_of_length_le (by simp; omega)]), rfl⟩


set_option maxHeartbeats 400000 in
theorem right_any (n W after : Int) (w : World) :
    Calls Try.prog 12 #[.int .i64 n, .int .i64 W, .int .i64 after] w fun e w' => e = .returned (.bool (decide (1 ≤ n ∧ n ≤ 8 ∧ 1 ≤ W ∧ W ≤ 65536 ∧ 1 ≤ after ∧ after ≤ 1099511627776))) ∧ w = w' := by
  by_cases h1 : 1 ≤ n
  rotate_left
  · go_enter Try.func12, Try.ntmps12
    go_wp2
    go_ret
    exact ⟨ret_bool (by simp; intros; omega), rfl⟩
  by_cases h2 : n ≤ 8
  rotate_left
  · go_enter Try.func12, Try.ntmps12
    go_wp2
    go_ret
    exact ⟨ret_bool (by simp; intros; omega), rfl⟩
  by_cases h3 : 1 ≤ W
  rotate_left
  · go_enter Try.func12, Try.ntmps12
    go_wp2
    go_ret
    exact ⟨ret_bool (by simp; intros; omega), rfl⟩
  by_cases h4 : W ≤ 65536
  rotate_left
  · go_enter Try.func12, Try.ntmps12
    go_wp2
    go_ret
    exact ⟨ret_bool (by simp; intros; omega), rfl⟩
  by_cases h5 : 1 ≤ after
  rotate_left
  · go_enter Try.func12, Try.ntmps12
    go_wp2
    go_ret
    exact ⟨ret_bool (by simp; intros; omega), rfl⟩
  go_enter Try.func12, Try.ntmps12
  go_wp2
  go_ret
  exact ⟨ret_bool (by simp [h1, h2, h3, h4, h5]), rfl⟩

/-! The chapter's example -/
theorem leastF_congr {T T' : Nat → Nat → Int} {W n : Nat} (h : ∀ i, i < n → ∀ j, j < W → T i j = T' i j) (hW : 0 < W) (key : Int) : ∀ k, k ≤ n → leastF T W key k = leastF T' W key k
  | 0, _ => rfl
  | 1, hk => h 0 (by omega) _ (mixF_lt _ _ _ hW)
  | k + 2, hk => by
    have e := leastF_congr h hW key (k + 1) (by omega)
    have e2 := h (k + 1) (by omega) _ (mixF_lt key (k + 1) W hW)
    simp only [leastF, e, e2]

/-- A key alone: its counter in each row holds c, all others 0. -/
def lone (key : Int) (W n : Nat) (c : Int) : Nat → Nat → Int := fun i j => if i < n ∧ j = mixF key i W then c else 0
theorem bump_lone (key : Int) (W n : Nat) (c : Int) : bump (lone key W n c) W key n = lone key W n (c + 1) := by
  funext i j; unfold bump lone; split <;> simp
theorem halve_lone (key : Int) (W n : Nat) (c : Int) : halve (lone key W n c) = lone key W n (c / 2) := by
  funext i j; unfold halve lone; split <;> simp
theorem lone_zero (key : Int) (W n : Nat) : lone key W n 0 = fun _ _ => 0 := by funext i j; unfold lone; split <;> rfl
theorem least_lone (key : Int) (W n : Nat) (c : Int) : ∀ k, 0 < k → k ≤ n → leastF (lone key W n c) W key k = c
  | 0, h, _ => by omega
  | 1, _, hk => by simp [leastF, lone]; omega
  | k + 2, _, hk => by
    have e := least_lone key W n c (k + 1) (by omega) (by omega)
    have e2 : lone key W n c (k + 1) (mixF key (k + 1) W) = c := by simp [lone]; omega
    simp only [leastF, e, e2]; split <;> rfl
theorem lone_bd (key : Int) (W n : Nat) (c : Int) (h : 0 ≤ c ∧ c ≤ 4611686018427387904) (i j : Nat) : 0 ≤ lone key W n c i j ∧ lone key W n c i j ≤ 4611686018427387904 := by unfold lone; split <;> omega

set_option maxHeartbeats 1000000 in
theorem awake_any (w : World) :
    Calls Try.prog 9 #[] w fun e w' => e = .returned (.bool true) ∧ Chg (fun _ => False) w w' := by
  go_enter Try.func9, Try.ntmps9
  go_wp2_with fail
  refine (new_try 2 16 100 _ (by omega) (by omega) (by omega)).mono ?_; rintro e w1 ⟨rfl, ⟨g, cap, R, hs, hg, hR⟩, g1⟩
  have hs0 : Sk w1 w.heap.size g cap 2 16 R 100 0 (lone 7 16 2 0) := by rw [lone_zero]; exact hs
  have HS := Lib.hid hs0
  clear hs hs0
  go_wp2_with fail
  go_loopw [13] (fun i wr => ∃ k : Nat, k ≤ 5 ∧ i = .int .i64 (↑k : Int) ∧ Hid (Sk wr w.heap.size g cap 2 16 R 100 k (lone 7 16 2 k)) ∧ Hid (Chg (fun c => w.heap.size ≤ c) w wr)) (fun i _ => 5 - (intOf i).toNat)
  case atStart => exact ⟨0, by omega, rfl, HS.out, g1.mono (fun _ _ h => h.elim)⟩
  case round =>
    obtain ⟨k, hk, rfl, HK, HG⟩ := hrel
    have tr : Hid (∀ {a b : World} , Chg (fun c => w.heap.size ≤ c) w a → Chg (SkS w.heap.size 2 R) a b → Chg (fun c => w.heap.size ≤ c) w b) := fun h1 h2 => h1.trans h2 (fun i _ hi => by
      rcases hi with rfl | ⟨j, hj, rfl⟩
      · exact Nat.le_refl _
      · exact Nat.le_of_lt (hR j hj))
    by_cases hlt : k < 5
    · go_wp2_with fail
      refine (add_rows _ _ _ _ _ _ _ _ _ 7 _ HK.out (by omega) (lone_bd _ _ _ _ (by omega)) (by omega)).mono ?_; rintro e w2 ⟨rfl, hs, hc⟩
      rw [if_neg (by omega), bump_lone] at hs
      have HS2 := Lib.hid hs
      clear hs
      go_wp2
      go_roundw
      case rel => exact ⟨k + 1, by omega, by go_num, HS2.out, tr.out HG.out hc⟩
      case measure => simp [intOf]; omega
    · obtain rfl : k = 5 := by omega
      go_wp2_with fail
      refine (age_any _ _ _ _ _ _ _ _ _ _ HK.out (fun i j => ⟨(lone_bd _ _ _ _ (by omega) i j).1, Int.le_trans (lone_bd _ _ _ _ (by omega) i j).2 (by omega)⟩)).mono ?_; rintro e w2 ⟨rfl, hs, hc⟩
      rw [halve_lone] at hs
      have HS2 := Lib.hid hs
      have G2 := Lib.hid (tr.out HG.out hc)
      clear hs hc
      go_wp2_with fail
      refine (add_rows _ _ _ _ _ _ _ _ _ 7 _ HS2.out (by omega) (lone_bd _ _ _ _ (by omega)) (by omega)).mono ?_; rintro e w3 ⟨rfl, hs, hc⟩
      rw [if_neg (by omega), bump_lone] at hs
      have HS3 := Lib.hid hs
      have G3 := Lib.hid (tr.out G2.out hc)
      clear hs hc
      have e3 : leastF (lone 7 16 2 (5 / 2 + 1)) 16 7 2 = 3 := by rw [least_lone _ _ _ _ 2 (by omega) (by omega)]; rfl
      go_wp2_with fail
      refine (count_any _ _ _ _ _ _ _ _ _ 7 _ HS3.out (by omega) (fun i j => ⟨(lone_bd _ _ _ _ (by omega) i j).1, Int.le_trans (lone_bd _ _ _ _ (by omega) i j).2 (by omega)⟩)).mono ?_; rintro e w4 ⟨rfl, n4, rfl⟩
      go_wp2_with fail
      refine (adds_any _ _ _ _ _ _ _ _ _ _ (HS3.out.drewN _)).mono ?_; rintro e w4 ⟨rfl, rfl⟩
      go_wp2_with fail
      refine (hash_any _ _ (by decide)).mono ?_; rintro e w4 ⟨rfl, rfl⟩
      go_wp2_with fail
      go_ret
      exact ⟨ret_bool (by simp; rfl), (G3.out.drewN _).mono (fun i hi h => by omega)⟩
end Go.Proofs.Ytmkgmofkfgfdhaa
