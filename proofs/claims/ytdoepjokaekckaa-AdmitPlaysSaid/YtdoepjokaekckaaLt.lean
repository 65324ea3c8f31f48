/- The list's calls: New, of, Add. -/
import Derived.Test.YtdoepjokaekckaaLs
namespace Go.Proofs.Ytdoepjokaekckaa
set_option linter.unusedVariables false
open Go.RowKit

def badMost (n : Int) : Bool := decide (n < 0 ∨ 1152921504606846976 < n)
set_option maxHeartbeats 1000000 in
theorem new_bad (w : World) (n : Int) (h : badMost n = true) :
    Calls Try.prog 25 #[.int .i64 n] w fun e w' => e = .returned (.tuple #[.pointer none, .int .i64 1]) ∧ w = w' := by
  simp [badMost] at h
  by_cases p1 : n < 0
  · go_enter Try.func25, Try.ntmps25
    go_wp2
    go_ret2
    exact ⟨rfl, rfl⟩
  · have q1 : decide (n < 0) = false := by simp; omega
    have q2 : 1152921504606846976 < n := by omega
    go_enter Try.func25, Try.ntmps25
    go_wp2
    go_ret2
    exact ⟨rfl, rfl⟩
set_option maxHeartbeats 1000000 in
theorem new_ok (w : World) (n : Int) (h : badMost n = false) :
    Calls Try.prog 25 #[.int .i64 n] w fun e w' => e = .returned (.tuple #[.pointer (some ⟨w.heap.size, 0, none⟩), .int .i64 0]) ∧ LsR w' w.heap.size n (.map none) 0 [] [] ∧ Chg (fun _ => False) w w' := by
  simp [badMost] at h
  have q1 : decide (n < 0) = false := by simp; omega
  have q2 : decide (1152921504606846976 < n) = false := by simp; omega
  go_enter Try.func25, Try.ntmps25
  go_wp2
  go_ret2
  refine ⟨rfl, ⟨by go_simp, by go_simp, .inl ⟨rfl, fun x => rfl⟩, ⟨by go_simp; rfl, by go_simp; rfl, by go_simp; rfl, fun o => by go_simp, trivial, by simp, by simp⟩, ⟨by go_simp; rfl, by go_simp; rfl, by go_simp; rfl, fun o => by go_simp, trivial, by simp, by simp⟩, by simp, by simp, by simp [keysP, prs], by simp [prs]⟩, (by repeat (first | with_reducible exact Chg.refl _ _ | with_reducible assumption | with_reducible refine Chg.drewN ?_ _ | with_reducible refine Chg.drew ?_ | with_reducible refine Chg.alloc ?_ _ | with_reducible refine Chg.setCell ?_ (by first | (left; rfl) | (left; left; rfl) | (left; right; rfl) | (left; right; left; rfl) | (left; right; right; rfl) | (right; exact Nat.le_refl _) | (right; simp; done) | (right; omega) | (right; simp at *; omega) | (simp at *; omega)) _ | with_reducible refine Chg.trans ?_ (by with_reducible assumption) (by intro i hi hT; first | exact hT | exact False.elim hT | omega | (simp at *; omega))))⟩

set_option maxHeartbeats 1000000 in
theorem of_kept (w : World) (b p : Nat) (hc : w.cell? ⟨p, 2, none⟩ = some (.bool true)) :
    Calls Try.prog 61 #[.pointer (some ⟨b, 0, none⟩), .pointer (some ⟨p, 0, none⟩)] w fun e w' => e = .returned (.pointer (some ⟨b, 5, none⟩)) ∧ w = w' := by
  go_enter Try.func61, Try.ntmps61
  go_wp2
  go_ret
  exact ⟨rfl, rfl⟩
set_option maxHeartbeats 1000000 in
theorem of_trial (w : World) (b p : Nat) (hc : w.cell? ⟨p, 2, none⟩ = some (.bool false)) :
    Calls Try.prog 61 #[.pointer (some ⟨b, 0, none⟩), .pointer (some ⟨p, 0, none⟩)] w fun e w' => e = .returned (.pointer (some ⟨b, 2, none⟩)) ∧ w = w' := by
  go_enter Try.func61, Try.ntmps61
  go_wp2
  go_ret
  exact ⟨rfl, rfl⟩
end Go.Proofs.Ytdoepjokaekckaa
