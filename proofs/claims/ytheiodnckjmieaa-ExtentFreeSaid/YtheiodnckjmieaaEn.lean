/- New maps. -/
import Derived.Test.YtheiodnckjmieaaEy
namespace Go.Proofs.Ytheiodnckjmieaa
set_option linter.unusedVariables false
open Go.RowKit

def badN (f s : Int) : Bool := decide (f < 0 ∨ 1048576 < f ∨ s < 0 ∨ 1048576 < s)
def firstFs (base sec : Int) : List Ext := if 0 < sec then [(base, sec)] else []

theorem rd_cells' {w : World} {q : Nat} {u v : Int} (h0 : w.cell? ⟨q, 0, none⟩ = some (.int .i64 u)) (h1 : w.cell? ⟨q, 1, none⟩ = some (.int .i64 v)) : RdS w 2 (some ⟨q, 0, none⟩) 1 1 (flat [(u, v)]) := by
  refine ⟨rfl, ⟨Nat.le_refl _, by unfold maxLen; omega⟩, (fun e => nomatch e), flat_one _, fun j u' hj => ?_, fun x hx => by injection hx with hx; exact ⟨_, _, hx.symm⟩⟩
  refine ⟨q, 0, rfl, ?_⟩
  match j, hj with
  | 0, hj => injection hj with hj; subst hj; exact h0
  | 1, hj => injection hj with hj; subst hj; exact h1

set_option maxHeartbeats 1000000 in
theorem new_bad (w : World) (f s : Int) (h : badN f s = true) :
    Calls Try.prog 12 #[.int .i64 f, .int .i64 s] w fun e w' => e = .returned (.tuple #[.pointer none, .int .i64 1]) ∧ w = w' := by
  have h' : f < 0 ∨ 1048576 < f ∨ s < 0 ∨ 1048576 < s := by simpa [badN] using h
  clear h
  by_cases p1 : f < 0
  · go_enter Try.func12, Try.ntmps12
    go_wp2
    go_ret2
    exact ⟨rfl, rfl⟩
  have q1 : decide (f < 0) = false := by simp; omega
  by_cases p2 : 1048576 < f
  · go_enter Try.func12, Try.ntmps12
    go_wp2
    go_ret2
    exact ⟨rfl, rfl⟩
  have q2 : decide (1048576 < f) = false := by simp; omega
  by_cases p3 : s < 0
  · go_enter Try.func12, Try.ntmps12
    go_wp2
    go_ret2
    exact ⟨rfl, rfl⟩
  have q3 : decide (s < 0) = false := by simp; omega
  have p4 : 1048576 < s := by omega
  go_enter Try.func12, Try.ntmps12
  go_wp2
  go_ret2
  exact ⟨rfl, rfl⟩

set_option maxHeartbeats 1000000 in
theorem new_ok (w : World) (f s : Int) (h : badN f s = false) :
    Calls Try.prog 12 #[.int .i64 f, .int .i64 s] w fun e w' => e = .returned (.tuple #[.pointer (some ⟨w.heap.size, 0, none⟩), .int .i64 0]) ∧ (∃ a c, Em w' (fun q => q = w.heap.size) w.heap.size f s a c (firstFs f s)) ∧ Chg (fun _ => False) w w' := by
  have h' : 0 ≤ f ∧ f ≤ 1048576 ∧ 0 ≤ s ∧ s ≤ 1048576 := by simp [badN] at h; omega
  clear h
  have q1 : decide (f < 0) = false := by simp; omega
  have q2 : decide (1048576 < f) = false := by simp; omega
  have q3 : decide (s < 0) = false := by simp; omega
  have q4 : decide (1048576 < s) = false := by simp; omega
  by_cases p : 0 < s
  · go_enter Try.func12, Try.ntmps12
    go_wp2
    go_ret2
    have e : firstFs f s = [(f, s)] := if_pos p
    rw [e]
    refine ⟨rfl, ⟨_, _, by go_simp, by go_simp, by go_simp, by intro o; go_simp, rd_cells' (q := w.heap.size + 1) (by go_simp) (by go_simp), fun g hg => ?_, rfl, fun q hq => by subst hq; simp; omega, ?_, by omega⟩, (by repeat (first | with_reducible exact Chg.refl _ _ | with_reducible assumption | with_reducible refine Chg.drewN ?_ _ | with_reducible refine Chg.drew ?_ | with_reducible refine Chg.alloc ?_ _ | with_reducible refine Chg.setCell ?_ (by first | (left; rfl) | (right; exact Nat.le_refl _) | (right; simp; done) | (right; omega) | (right; simp at *; omega) | (simp at *; omega)) _ | with_reducible refine Chg.trans ?_ (by with_reducible assumption) (by intro i hi hT; first | exact hT | exact False.elim hT | omega | (simp at *; omega))))⟩
    · simp [Value.ownBlock] at hg
      subst hg
      exact ⟨by omega, by simp⟩
    · exact ⟨Int.le_refl _, by omega, by omega, trivial⟩
  · have q5 : decide (0 < s) = false := by simp; omega
    go_enter Try.func12, Try.ntmps12
    go_wp2
    go_ret2
    have e : firstFs f s = [] := if_neg (by omega)
    rw [e]
    refine ⟨rfl, ⟨none, 0, by go_simp, by go_simp, by go_simp, by intro o; go_simp, ⟨rfl, ⟨Nat.le_refl _, by unfold maxLen; omega⟩, fun _ => ⟨rfl, rfl⟩, flat_one _, fun j u' hj => by simp [flat] at hj, fun x hx => by cases hx⟩, fun g hg => by simp [Value.ownBlock] at hg, rfl, fun q hq => by subst hq; simp, trivial, by omega⟩, (by repeat (first | with_reducible exact Chg.refl _ _ | with_reducible assumption | with_reducible refine Chg.drewN ?_ _ | with_reducible refine Chg.drew ?_ | with_reducible refine Chg.alloc ?_ _ | with_reducible refine Chg.setCell ?_ (by first | (left; rfl) | (right; exact Nat.le_refl _) | (right; simp; done) | (right; omega) | (right; simp at *; omega) | (simp at *; omega)) _ | with_reducible refine Chg.trans ?_ (by with_reducible assumption) (by intro i hi hT; first | exact hT | exact False.elim hT | omega | (simp at *; omega))))⟩

theorem rd_one {w : World} {q : Nat} {u : Value} (h0 : w.cell? ⟨q, 0, none⟩ = some u) (h1 : u.oneCell' = true) : RdS w 1 (some ⟨q, 0, none⟩) 1 1 [u] := by
  refine ⟨rfl, ⟨Nat.le_refl _, by unfold maxLen; omega⟩, (fun e => nomatch e), fun v hv => by rw [List.mem_singleton.1 hv]; exact h1, fun j u' hj => ?_, fun x hx => by injection hx with hx; exact ⟨_, _, hx.symm⟩⟩
  refine ⟨q, 0, rfl, ?_⟩
  match j, hj with
  | 0, hj => injection hj with hj; subst hj; exact h0

set_option maxHeartbeats 1000000 in
theorem rnew_bad (w : World) (f s : Int) (h : badN f s = true) :
    Calls Try.prog 13 #[.int .i64 f, .int .i64 s] w fun e w' => e = .returned (.tuple #[.pointer none, .bool false]) ∧ w = w' := by
  have h' : f < 0 ∨ 1048576 < f ∨ s < 0 ∨ 1048576 < s := by simpa [badN] using h
  clear h
  by_cases p1 : f < 0
  · go_enter Try.func13, Try.ntmps13
    go_wp2
    go_ret2
    exact ⟨rfl, rfl⟩
  have q1 : decide (f < 0) = false := by simp; omega
  by_cases p2 : 1048576 < f
  · go_enter Try.func13, Try.ntmps13
    go_wp2
    go_ret2
    exact ⟨rfl, rfl⟩
  have q2 : decide (1048576 < f) = false := by simp; omega
  by_cases p3 : s < 0
  · go_enter Try.func13, Try.ntmps13
    go_wp2
    go_ret2
    exact ⟨rfl, rfl⟩
  have q3 : decide (s < 0) = false := by simp; omega
  have p4 : 1048576 < s := by omega
  go_enter Try.func13, Try.ntmps13
  go_wp2
  go_ret2
  exact ⟨rfl, rfl⟩

set_option maxHeartbeats 1000000 in
theorem rnew_ok (w : World) (f : Int) (s : Nat) (h : badN f s = false) :
    Calls Try.prog 13 #[.int .i64 f, .int .i64 s] w fun e w' => e = .returned (.tuple #[.pointer (some ⟨w.heap.size, 0, none⟩), .bool true]) ∧ (∃ a c, Rm w' (fun q => q ≤ w.heap.size) w.heap.size f a c (List.replicate s true)) ∧ Chg (fun _ => False) w w' := by
  obtain ⟨ie, hie, ez0, ez1, ez2⟩ := info_parts infoBool
  have h' : 0 ≤ f ∧ f ≤ 1048576 ∧ (s : Int) ≤ 1048576 := by simp [badN] at h; omega
  clear h
  have q1 : decide (f < 0) = false := by simp; omega
  have q2 : decide (1048576 < f) = false := by simp; omega
  have q3 : decide ((s : Int) < 0) = false := by simp
  have q4 : decide (1048576 < (s : Int)) = false := by simp; omega
  go_enter Try.func13, Try.ntmps13
  go_wp2_with fail
  go_loopw [7] (fun i wr => ∃ (k : Nat) (a : Option Addr) (c : Nat), k ≤ s ∧ i = .int .i64 (↑k : Int) ∧ wr.cell? ⟨w.heap.size, 0, none⟩ = some (.int .i64 f) ∧ wr.cell? ⟨w.heap.size, 1, none⟩ = some (.slice a k c) ∧ (∀ o, wr.frozen? ⟨w.heap.size, o, none⟩ = false) ∧ w.heap.size < wr.heap.size ∧ Hid (wr.ownsRow (w.heap.size + 1) 4 1 (.slice a k c) k ((List.replicate k true).map Value.bool)) ∧ Hid (Chg (fun _ => False) w wr)) (fun i _ => s - (intOf i).toNat)
  case atStart => exact ⟨0, none, 0, by omega, rfl, by go_simp, by go_simp, by intro o; go_simp, by simp, World.ownsRow_nil _ _ _ _, by show Chg _ _ _; exact (by repeat (first | with_reducible exact Chg.refl _ _ | with_reducible assumption | with_reducible refine Chg.drewN ?_ _ | with_reducible refine Chg.drew ?_ | with_reducible refine Chg.alloc ?_ _ | with_reducible refine Chg.setCell ?_ (by first | (left; rfl) | (right; exact Nat.le_refl _) | (right; simp; done) | (right; omega) | (right; simp at *; omega) | (simp at *; omega)) _ | with_reducible refine Chg.trans ?_ (by with_reducible assumption) (by intro i hi hT; first | exact hT | exact False.elim hT | omega | (simp at *; omega))))⟩
  case round =>
    obtain ⟨k, a, c, hk, rfl, e0, e1, ef, z, HO, HG⟩ := hrel
    by_cases hks : k < s
    · go_wp2_with (at_builtin; go_loud (refine list_owned rfl _ _ 56 rfl (w.heap.size + 1) 4 ie _ 1 1 Try.underlying56 hie ez0 ez1 ez2 rfl (by decide) rfl rfl (HO.out.alloc _) (bools_one _) (rd_one (u := .bool true) (by go_simp) rfl) (by unfold maxLen; omega) (by omega) (by simp; omega) ?_; intro a2 c2 w2 ho2 hg2 hone2; have s2 := hg2.size; simp at s2; have nb : some w.heap.size ≠ (Value.slice a k c).ownBlock := own_ne2 HO.out (by omega); have d0 : w2.cell? ⟨w.heap.size, 0, none⟩ = some (.int .i64 f) := (by rw [hg2.cell_far _ (by simp; omega) nb]; go_simp); have d1 : w2.cell? ⟨w.heap.size, 1, none⟩ = some (.slice a k c) := (by rw [hg2.cell_far _ (by simp; omega) nb]; go_simp); have df : ∀ o, w2.frozen? ⟨w.heap.size, o, none⟩ = false := (by intro o; rw [hg2.frozen_far _ (by simp; omega) nb]; go_simp)))
      go_roundw
      case rel =>
        refine ⟨k + 1, a2, c2, by omega, by go_num, ?_, ?_, ?_, ?_, ?_, ?_⟩
        · rw [cell_other (by simp)]; exact d0
        · exact cell_same d1
        · intro o; rw [World.frozen?_setCell]; exact df o
        · simp [World.setCell]; omega
        · have e : (List.replicate (k + 1) true).map Value.bool = (List.replicate k true).map Value.bool ++ [.bool true] := by rw [List.replicate_succ', List.map_append]; rfl
          show World.ownsRow _ _ _ _ _ _ _
          rw [e]
          refine own_block ho2 (fun q hq => Below.heap_setCell _ _ _ _ ?_)
          have := own_below ho2 hq
          simp only
          omega
        · exact (Chg.grown (HG.out.alloc _) hg2 (fun q hq => .inr (by have := own_below HO.out hq; omega))).setCell (p := ⟨w.heap.size, 1, none⟩) (.inr (Nat.le_refl _)) _
      case measure => simp [intOf]; omega
    · obtain rfl : k = s := by omega
      go_wp2
      go_ret2
      refine ⟨rfl, ⟨a, c, e0, by rw [List.length_replicate]; exact e1, ef, ?_, fun q hq => ?_, Nat.le_refl _, fun q hq => Nat.lt_of_le_of_lt hq z, by rw [List.length_replicate]; omega⟩, HG.out⟩
      · rw [List.length_replicate]; exact RdS.row HO.out (bools_one _)
      · rw [List.length_replicate] at hq
        have := own_below HO.out hq
        exact ⟨by omega, this.2⟩
end Go.Proofs.Ytheiodnckjmieaa
