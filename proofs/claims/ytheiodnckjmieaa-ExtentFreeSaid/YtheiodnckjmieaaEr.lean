/- The reference's map: in, all, turn. -/
import Derived.Test.YtheiodnckjmieaaEc
namespace Go.Proofs.Ytheiodnckjmieaa
set_option linter.unusedVariables false
open Go.RowKit

theorem infoBool : (Try.prog.info? 4).map (fun i => (i.zero, i.size, i.bytes)) = some (some (.bool false), 1, 1) := by kernel_rfl
theorem bools_one (F : List Bool) : ∀ u ∈ F.map Value.bool, u.oneCell' = true := by
  intro u hu
  obtain ⟨x, _, rfl⟩ := List.mem_map.1 hu
  rfl
theorem bool_at {F : List Bool} {j : Nat} {x : Bool} (h : F[j]? = some x) : (F.map Value.bool)[j]? = some (.bool x) := by simp [h]

/-- The reference's map. -/
structure Rm (w : World) (S : Nat → Prop) (b : Nat) (base : Int) (a : Option Addr) (c : Nat) (F : List Bool) : Prop where
  c0 : w.cell? ⟨b, 0, none⟩ = some (.int .i64 base)
  c1 : w.cell? ⟨b, 1, none⟩ = some (.slice a F.length c)
  fz : ∀ o, w.frozen? ⟨b, o, none⟩ = false
  rd : RdS w 1 a F.length c (F.map Value.bool)
  ob : ∀ g, (Value.slice a F.length c).ownBlock = some g → ¬ S g ∧ g < w.heap.size
  sb : S b
  lt : ∀ k, S k → k < w.heap.size
  bd : 0 ≤ base ∧ base ≤ 1048576 ∧ F.length ≤ 1048576
section
variable {w w' : World} {S T : Nat → Prop} {b : Nat} {base : Int} {a : Option Addr} {c : Nat} {F : List Bool}
theorem Rm.chg (h : Rm w S b base a c F) (k : Chg T w w') (hT : ∀ k, k < w.heap.size → T k → S k) (hb : ¬ T b) : Rm w' S b base a c F := by
  have lb := cell_lt h.c0
  refine ⟨(k.cell lb hb 0).trans h.c0, (k.cell lb hb 1).trans h.c1, fun o => (k.frozen lb hb o).trans (h.fz o), ?_, fun g hg => ⟨(h.ob g hg).1, Nat.lt_of_lt_of_le (h.ob g hg).2 k.size⟩, h.sb, fun q hq => Nat.lt_of_lt_of_le (h.lt q hq) k.size, h.bd⟩
  have k' : Chg (fun q => T q ∧ q < w.heap.size) w w' := ⟨k.os, k.tape, k.output, k.size, fun i hi hn => k.block i hi fun ht => hn ⟨ht, hi⟩⟩
  exact h.rd.block k' fun g hg ht => (h.ob g hg).1 (hT g ht.2 ht.1)
theorem Rm.widen {w1 : World} (h : Rm w S b base a c F) (k : Chg (fun _ => False) w w1) : Rm w1 (fun q => S q ∨ w.heap.size ≤ q ∧ q < w1.heap.size) b base a c F := by
  have h1 := h.chg k (fun _ _ h => h.elim) id
  exact ⟨h1.c0, h1.c1, h1.fz, h1.rd, fun g hg => ⟨fun hs => by
    rcases hs with hs | hs
    · exact (h.ob g hg).1 hs
    · have := (h.ob g hg).2; omega, (h1.ob g hg).2⟩, .inl h.sb, fun q hq => by
    rcases hq with hq | hq
    · exact h1.lt q hq
    · exact hq.2, h.bd⟩
theorem Rm.narrow {S' : Nat → Prop} (h : Rm w S' b base a c F) (hs : ∀ q, S q → S' q) (hb : S b) : Rm w S b base a c F :=
  ⟨h.c0, h.c1, h.fz, h.rd, fun g hg => ⟨fun q => (h.ob g hg).1 (hs g q), (h.ob g hg).2⟩, hb, fun q hq => h.lt q (hs q hq), h.bd⟩
theorem Rm.at (h : Rm w S b base a c F) {i : Nat} {x : Bool} (hi : F[i]? = some x) : ∃ g o, a = some ⟨g, o, none⟩ ∧ g < w.heap.size ∧ w.cell? ⟨g, o + i, none⟩ = some (.bool x) := by
  obtain ⟨g, o, rfl, c0⟩ := h.rd.cells _ _ (bool_at hi)
  exact ⟨g, o, rfl, cell_lt c0, c0⟩
end

set_option maxHeartbeats 1000000 in
theorem rin_any (w : World) (S : Nat → Prop) (b : Nat) (base : Int) (a : Option Addr) (c : Nat) (F : List Bool) (x n : Int) (h : Rm w S b base a c F) (hx : -9223372036854775808 ≤ x ∧ x ≤ 9223372036854775807) (hn : -9223372036854775808 ≤ n ∧ n ≤ 9223372036854775807) :
    Calls Try.prog 31 #[.pointer (some ⟨b, 0, none⟩), .agg #[.int .i64 x, .int .i64 n]] w fun e w' => e = .returned (.bool (oursB base F.length x n)) ∧ Below w.heap.size w w' := by
  have lb := cell_lt h.c0
  have d0 := h.c0
  have d1 := h.c1
  have hbd := h.bd
  have main : ∀ (r : Bool), (∀ W : World, W.cell? ⟨w.heap.size, 0, none⟩ = some (.int .i64 x) → W.cell? ⟨w.heap.size, 1, none⟩ = some (.int .i64 n) → True) → True := fun _ _ => trivial
  clear main h
  have ho : oursB base F.length x n = decide (1 ≤ n ∧ base ≤ x ∧ x < base + F.length ∧ n ≤ base + F.length - x) := by rw [oursB, decide_eq_decide]; omega
  rw [ho]
  clear ho
  by_cases p1 : 1 ≤ n
  rotate_left
  · have q1 : decide (1 ≤ n) = false := by simp; omega
    have q : decide (1 ≤ n ∧ base ≤ x ∧ x < base + F.length ∧ n ≤ base + F.length - x) = false := by simp; omega
    rw [q]; clear q
    go_enter Try.func31, Try.ntmps31
    go_wp2_with fail
    go_quiet (fail)
    go_wp2
    go_ret
    exact ⟨rfl, (by repeat (first | with_reducible exact Below.refl _ _ | with_reducible assumption | with_reducible refine below_drewN ?_ _ | with_reducible refine Below.drew ?_ | with_reducible refine Below.alloc ?_ (by first | exact Nat.le_refl _ | assumption | (simp; done) | omega | (simp at *; omega)) _ | with_reducible refine Below.setCell ?_ (by first | exact Nat.le_refl _ | assumption | (simp; done) | omega | (simp at *; omega)) _ | with_reducible refine Below.trans ?_ (Below.mono (by with_reducible assumption) (by first | exact Nat.le_refl _ | assumption | (simp; done) | omega | (simp at *; omega)))))⟩
  by_cases p2 : base ≤ x
  rotate_left
  · have q1 : decide (base ≤ x) = false := by simp; omega
    have q : decide (1 ≤ n ∧ base ≤ x ∧ x < base + F.length ∧ n ≤ base + F.length - x) = false := by simp; omega
    rw [q]; clear q
    go_enter Try.func31, Try.ntmps31
    go_wp2_with fail
    go_quiet (fail)
    go_wp2
    go_ret
    exact ⟨rfl, (by repeat (first | with_reducible exact Below.refl _ _ | with_reducible assumption | with_reducible refine below_drewN ?_ _ | with_reducible refine Below.drew ?_ | with_reducible refine Below.alloc ?_ (by first | exact Nat.le_refl _ | assumption | (simp; done) | omega | (simp at *; omega)) _ | with_reducible refine Below.setCell ?_ (by first | exact Nat.le_refl _ | assumption | (simp; done) | omega | (simp at *; omega)) _ | with_reducible refine Below.trans ?_ (Below.mono (by with_reducible assumption) (by first | exact Nat.le_refl _ | assumption | (simp; done) | omega | (simp at *; omega)))))⟩
  by_cases p3 : x < base + F.length
  rotate_left
  · have q1 : decide (x < base + (F.length : Int)) = false := by simp; omega
    have q : decide (1 ≤ n ∧ base ≤ x ∧ x < base + F.length ∧ n ≤ base + F.length - x) = false := by simp; omega
    rw [q]; clear q
    go_enter Try.func31, Try.ntmps31
    go_wp2_with fail
    go_quiet (fail)
    go_wp2
    go_ret
    exact ⟨rfl, (by repeat (first | with_reducible exact Below.refl _ _ | with_reducible assumption | with_reducible refine below_drewN ?_ _ | with_reducible refine Below.drew ?_ | with_reducible refine Below.alloc ?_ (by first | exact Nat.le_refl _ | assumption | (simp; done) | omega | (simp at *; omega)) _ | with_reducible refine Below.setCell ?_ (by first | exact Nat.le_refl _ | assumption | (simp; done) | omega | (simp at *; omega)) _ | with_reducible refine Below.trans ?_ (Below.mono (by with_reducible assumption) (by first | exact Nat.le_refl _ | assumption | (simp; done) | omega | (simp at *; omega)))))⟩
  have q : decide (1 ≤ n ∧ base ≤ x ∧ x < base + F.length ∧ n ≤ base + F.length - x) = decide (n ≤ base + F.length - x) := by rw [decide_eq_decide]; omega
  rw [q]; clear q
  have q1 : decide (x < base + (F.length : Int)) = true := by simp; omega
  go_enter Try.func31, Try.ntmps31
  go_wp2_with fail
  go_quiet (fail)
  go_wp2
  go_ret
  exact ⟨rfl, (by repeat (first | with_reducible exact Below.refl _ _ | with_reducible assumption | with_reducible refine below_drewN ?_ _ | with_reducible refine Below.drew ?_ | with_reducible refine Below.alloc ?_ (by first | exact Nat.le_refl _ | assumption | (simp; done) | omega | (simp at *; omega)) _ | with_reducible refine Below.setCell ?_ (by first | exact Nat.le_refl _ | assumption | (simp; done) | omega | (simp at *; omega)) _ | with_reducible refine Below.trans ?_ (Below.mono (by with_reducible assumption) (by first | exact Nat.le_refl _ | assumption | (simp; done) | omega | (simp at *; omega)))))⟩
end Go.Proofs.Ytheiodnckjmieaa
