/- A slice of things that came in, opened. -/
import Derived.Test.YtdoepjokaekckaaBo
namespace Go.Proofs.Ytdoepjokaekckaa
set_option linter.unusedVariables false
open Go.ChangeShapes Go.WideShapes Go.ChangeAt Go.RowKit Go.Deep Go.Joins

/-- A slice that came in reads as a list of things. -/
def IsLT (w : World) (v : Value) (xs : List Tg) : Prop :=
  (∀ x ∈ xs, (Lit.int .i64 x.1).wf = true ∧ (Lit.int .i64 x.2.1).wf = true ∧ x.2.2.1.size ≤ maxLen ∧ (Lit.int .u64 x.2.2.2).wf = true) ∧
  ∃ a cap, v = .slice a xs.length cap ∧ xs.length ≤ 9223372036854775807 ∧ (0 < xs.length → ∃ b off, a = some ⟨b, off, none⟩ ∧ b < w.heap.size ∧ ∀ (i : Nat) x, xs[i]? = some x → w.cell? ⟨b, off + i * 4, none⟩ = some (.int .i64 x.1) ∧ w.cell? ⟨b, off + i * 4 + 1, none⟩ = some (.int .i64 x.2.1) ∧ w.cell? ⟨b, off + i * 4 + 2, none⟩ = some (.string x.2.2.1) ∧ w.cell? ⟨b, off + i * 4 + 3, none⟩ = some (.int .u64 x.2.2.2))
theorem IsLT.at {w : World} {a : Option Addr} {n cap : Nat} {xs : List Tg} (h : IsLT w (.slice a n cap) xs) {i : Nat} {x : Tg} (hi : xs[i]? = some x) : ∃ b off, a = some ⟨b, off, none⟩ ∧ b < w.heap.size ∧ w.cell? ⟨b, off + i * 4, none⟩ = some (.int .i64 x.1) ∧ w.cell? ⟨b, off + i * 4 + 1, none⟩ = some (.int .i64 x.2.1) ∧ w.cell? ⟨b, off + i * 4 + 2, none⟩ = some (.string x.2.2.1) ∧ w.cell? ⟨b, off + i * 4 + 3, none⟩ = some (.int .u64 x.2.2.2) := by
  obtain ⟨_, a', cap', e, _, h1⟩ := h
  injection e with e1 e2 e3
  subst e1
  have hl := (List.getElem?_eq_some_iff.1 hi).1
  obtain ⟨b, off, rfl, hb, hc⟩ := h1 (by omega)
  exact ⟨b, off, rfl, hb, hc i x hi⟩
section
variable {H : Type} {enc : TypeId × Value → H} {P : Program} {w : World} {base : Nat} {spare : Nat → Bool} {held : Bool}
theorem open_list_tg {r : Reach} {b0 : Nat} {t e : TypeId} {f0 f1 f2 f3 : Field} {v : Value} {d : DataW H} {p : List MemPlace} (ht : P.underlying t = some (.slice e)) (he : P.underlying e = some (.struct #[f0, f1, f2, f3]))
    (hone : oneCellFields P #[f0, f1, f2, f3] = true) (hC : P.cellsOf e = 4) (h0 : P.underlying f0.type = some (.int .i64)) (h1 : P.underlying f1.type = some (.int .i64)) (h2 : P.underlying f2.type = some .string) (h3 : P.underlying f3.type = some (.int .u64))
    (hv : Value.okWide P w r b0 t v) (h : DataW.Trod enc P w base spare held t v d p) : ∃ xs, IsLT w v xs := by
  obtain ⟨a0, len, cap, rfl⟩ := okWide_slice ht hv
  obtain ⟨fuel, hf⟩ := h
  rcases open_rows ht he hone hC hf with hcs | ⟨x, l, c, hcs, hl, hm, hrow⟩
  · simp [Value.cells] at hcs
    obtain ⟨rfl, rfl, rfl⟩ := hcs
    exact ⟨[], by simp, none, 0, rfl, by simp, by simp⟩
  · simp [Value.cells] at hcs
    obtain ⟨rfl, rfl, rfl⟩ := hcs
    unfold maxLen at hm
    obtain ⟨xs, hlen, hxs⟩ := list_of (fun i (y : Tg) => (w.cell? (x.add (i * 4)) = some (.int .i64 y.1) ∧ w.cell? (x.add (i * 4 + 1)) = some (.int .i64 y.2.1) ∧ w.cell? (x.add (i * 4 + 2)) = some (.string y.2.2.1) ∧ w.cell? (x.add (i * 4 + 3)) = some (.int .u64 y.2.2.2)) ∧ (Lit.int .i64 y.1).wf = true ∧ (Lit.int .i64 y.2.1).wf = true ∧ y.2.2.1.size ≤ maxLen ∧ (Lit.int .u64 y.2.2.2).wf = true) len (fun i hi => by
      obtain ⟨n0, v0, y0, q0, t0⟩ := hrow i hi 0 f0 rfl
      obtain ⟨n1, v1, y1, q1, t1⟩ := hrow i hi 1 f1 rfl
      obtain ⟨n2, v2, y2, q2, t2⟩ := hrow i hi 2 f2 rfl
      obtain ⟨n3, v3, y3, q3, t3⟩ := hrow i hi 3 f3 rfl
      obtain ⟨a, rfl, wa⟩ := one_int h0 t0
      obtain ⟨b, rfl, wb⟩ := one_int h1 t1
      obtain ⟨s, rfl, ws⟩ := one_str h2 t2
      obtain ⟨c, rfl, wc⟩ := one_int h3 t3
      exact ⟨(a, b, s, c), ⟨q0, q1, q2, q3⟩, wa, wb, ws, wc⟩)
    refine ⟨xs, fun y hy => ?_, some x, cap, by rw [hlen], by omega, fun hp => ?_⟩
    · obtain ⟨i, hi⟩ := List.getElem?_of_mem hy
      exact (hxs i y hi).2
    · have g0 := (hxs 0 _ (List.getElem?_eq_getElem hp)).1.1
      have hxs' : x.spot = none := by simpa [Addr.add] using World.cell?_spot g0
      obtain ⟨xb, xo, xsp⟩ := x
      simp only at hxs'
      subst hxs'
      refine ⟨xb, xo, rfl, ?_, fun i y hy => ?_⟩
      · rw [addr_add] at g0; exact cell_lt g0
      · have q := (hxs i y hy).1
        rw [addr_add, addr_add, addr_add, addr_add] at q
        exact q
end
end Go.Proofs.Ytdoepjokaekckaa
