/- The map of extents: the search, and taking. -/
import Derived.Test.YtheiodnckjmieaaEw
namespace Go.Proofs.Ytheiodnckjmieaa
set_option linter.unusedVariables false
open Go.RowKit

theorem norm_len {hi : Int} : ∀ {fs : List Ext} {lo : Int}, Norm hi lo fs → lo ≤ hi + 1 → 2 * (fs.length : Int) ≤ hi + 1 - lo
  | [], _, _, h => by simp; omega
  | e :: r, lo, h, _ => by
    have := norm_len h.2.2.2 (by have := h.2.2.1; omega)
    have := h.1; have := h.2.1
    simp; omega
theorem Em.few {w : World} {S : Nat → Prop} {b : Nat} {base sec : Int} {a : Option Addr} {c : Nat} {fs : List Ext} (h : Em w S b base sec a c fs) : fs.length ≤ 1048576 := by
  have := norm_len h.norm (by have := h.bd; omega)
  have := h.bd
  omega
theorem Em.each {w : World} {S : Nat → Prop} {b : Nat} {base sec : Int} {a : Option Addr} {c : Nat} {fs : List Ext} (h : Em w S b base sec a c fs) {e : Ext} (he : e ∈ fs) : 0 ≤ e.1 ∧ 1 ≤ e.2 ∧ e.1 + e.2 ≤ 2097152 ∧ base ≤ e.1 ∧ e.1 + e.2 ≤ base + sec := by
  have := h.norm.bounds e he
  have := h.bd
  omega
/-- The ends rise. -/
theorem norm_rise {hi lo : Int} {fs : List Ext} (h : Norm hi lo fs) {i j : Nat} {e f : Ext} (hi' : fs[i]? = some e) (hj : fs[j]? = some f) (hij : i < j) : e.1 + e.2 < f.1 := by
  induction fs generalizing lo i j with
  | nil => simp at hi'
  | cons x r ih =>
    cases j with
    | zero => omega
    | succ j =>
      cases i with
      | zero =>
        simp at hi'
        subst hi'
        have := h.2.2.2.bounds f (List.mem_of_getElem? (by simpa using hj))
        omega
      | succ i => exact ih h.2.2.2 (by simpa using hi') (by simpa using hj) (by omega)

set_option maxHeartbeats 1000000 in
theorem meets_any (w : World) (S : Nat → Prop) (b : Nat) (base sec : Int) (a : Option Addr) (c : Nat) (fs : List Ext) (at_ : Int) (h : Em w S b base sec a c fs) (ha : -9223372036854775808 ≤ at_ ∧ at_ ≤ 9223372036854775807) :
    Calls Try.prog 28 #[.pointer (some ⟨b, 0, none⟩), .int .i64 at_] w fun e w' => (∃ A R : List Ext, fs = A ++ R ∧ e = .returned (.int .i64 (A.length : Int)) ∧ (∀ f ∈ A, f.1 + f.2 ≤ at_) ∧ (∀ f ∈ R, at_ < f.1 + f.2)) ∧ Below w.heap.size w w' := by
  have c2 := h.c2
  have few := h.few
  have H := Lib.hid h
  clear h
  go_enter Try.func28, Try.ntmps28
  go_wp2
  go_quiet (fail)
  go_wp2
  go_loopw [5, 6] (fun lo hi wr => ∃ i j : Nat, i ≤ j ∧ j ≤ fs.length ∧ lo = .int .i64 (↑i : Int) ∧ hi = .int .i64 (↑j : Int) ∧ Hid (∀ k f, fs[k]? = some f → k < i → f.1 + f.2 ≤ at_) ∧ Hid (∀ k f, fs[k]? = some f → j ≤ k → at_ < f.1 + f.2) ∧ Hid (∃ q, wr = w.drewN q)) (fun lo hi _ => (intOf hi - intOf lo).toNat)
  case atStart => exact ⟨0, fs.length, by omega, by omega, rfl, rfl, fun k f _ hk => by omega, fun k f hf hk => by have := (List.getElem?_eq_some_iff.1 hf).1; omega, _, rfl⟩
  case round =>
    obtain ⟨i, j, hij, hj, rfl, rfl, HA, HR, HW⟩ := hrel
    obtain ⟨q, rfl⟩ := HW.out
    by_cases hlt : i < j
    · obtain ⟨m, hm⟩ : ∃ m : Nat, m = i + (j - i) / 2 := ⟨_, rfl⟩
      have em : (i : Int) + ((j : Int) - i).tdiv 2 = (m : Int) := by rw [hm, Int.tdiv_eq_ediv_of_nonneg (by omega)]; omega
      have m1 : i ≤ m := by omega
      have m2 : m < j := by omega
      clear hm
      obtain ⟨f, hf⟩ : ∃ f, fs[m]? = some f := ⟨_, List.getElem?_eq_getElem (by omega)⟩
      obtain ⟨g, o, rfl, lg, k0, k1⟩ := H.out.rd.at hf
      have hb := H.out.each (List.mem_of_getElem? hf)
      have HF := Lib.hid hf
      clear hf
      by_cases hc : at_ < f.1 + f.2
      · go_wp2_with fail
        go_quiet (fail)
        go_wp2
        go_roundw
        case rel => exact ⟨i, m, m1, by omega, rfl, rfl, HA.out, fun k f' hf' hk => by
          by_cases e : k = m
          · subst e; rw [HF.out] at hf'; injection hf' with hf'; subst hf'; exact hc
          · have := norm_rise H.out.norm HF.out hf' (by omega)
            have := (H.out.each (List.mem_of_getElem? hf')).2.1
            omega, (by rw [World.drewN_drewN]; exact ⟨_, rfl⟩)⟩
        case measure => simp [intOf]; omega
      · have hc' : decide (at_ < f.1 + f.2) = false := by simp; omega
        go_wp2_with fail
        go_quiet (fail)
        go_wp2
        go_roundw
        case rel => exact ⟨m + 1, j, by omega, hj, by go_num, rfl, fun k f' hf' hk => by
          by_cases e : k = m
          · subst e; rw [HF.out] at hf'; injection hf' with hf'; subst hf'; omega
          · have := norm_rise H.out.norm hf' HF.out (by omega)
            have := hb.2.1
            omega, HR.out, _, rfl⟩
        case measure => simp [intOf]; omega
    · obtain rfl : i = j := by omega
      go_wp2
      go_ret
      refine ⟨⟨fs.take i, fs.drop i, by simp, by rw [List.length_take, Nat.min_eq_left hj]; rfl, fun f hf => ?_, fun f hf => ?_⟩, below_drewN (Below.refl _ _) _⟩
      · obtain ⟨k, hk⟩ := List.getElem?_of_mem hf
        rw [List.getElem?_take] at hk
        by_cases hki : k < i
        · rw [if_pos hki] at hk; exact HA.out k f hk hki
        · rw [if_neg hki] at hk; cases hk
      · obtain ⟨k, hk⟩ := List.getElem?_of_mem hf
        rw [List.getElem?_drop] at hk
        exact HR.out _ f hk (by omega)
end Go.Proofs.Ytheiodnckjmieaa
