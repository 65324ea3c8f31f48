/- Arguments opened: structs and arrays of plain numbers by value, slices of structs of plain numbers. -/
import Derived.Test.YtpapfnfdaklnlaaDoorKit
import Derived.ProofKit
import Derived.OpenShut
import Derived.ShutString
import Derived.ChangeOld
import Derived.Lib.SmallJoins
import Derived.Deep.Slices
import Derived.Deep.Fields
namespace Go.Proofs.YtpapfnfdaklnlaaDoor
set_option linter.unusedVariables false
open Go.ChangeShapes Go.WideShapes Go.ChangeAt Go.RowKit Go.Deep Go.Joins

section
variable {H : Type} {enc : TypeId × Value → H} {P : Program} {w : World} {base : Nat} {spare : Nat → Bool} {held : Bool}

theorem wfI64 {n : Int} (h : (Lit.int .i64 n).wf = true) : -9223372036854775808 ≤ n ∧ n ≤ 9223372036854775807 := bounds_i64 h
theorem wfU16 {n : Int} (h : (Lit.int .u16 n).wf = true) : 0 ≤ n ∧ n ≤ 65535 := bounds_u16 h
theorem wfU64 {n : Int} (h : (Lit.int .u64 n).wf = true) : 0 ≤ n ∧ n ≤ 18446744073709551615 := bounds_u64 h
theorem wfU8 {n : Int} (h : (Lit.int .u8 n).wf = true) : 0 ≤ n ∧ n ≤ 255 := bounds_u8 h

theorem one_int {t : TypeId} {k : IntKind} {fuel : Nat} {c : Value} {y : DataW H × List MemPlace} (ht : P.underlying t = some (.int k)) (h : DataW.trod enc P w base spare held fuel t [c] = some y) :
    ∃ n, c = .int k n ∧ (Lit.int k n).wf = true := by
  obtain ⟨n, h1, _, h2⟩ := DataW.trod_int ht h
  simp at h1
  exact ⟨n, h1, h2⟩

theorem open_ints2 {r : Reach} {b0 : Nat} {t : TypeId} {f0 f1 : Field} {k0 k1 : IntKind} {v : Value} {d : DataW H} {p : List MemPlace} (hs : P.underlying t = some (.struct #[f0, f1])) (hone : oneCellFields P #[f0, f1] = true) (hC : P.cellsOf t = 2)
    (h0 : P.underlying f0.type = some (.int k0)) (h1 : P.underlying f1.type = some (.int k1)) (hv : Value.okWide P w r b0 t v) (h : DataW.Trod enc P w base spare held t v d p) :
    ∃ a b, v = .agg #[.int k0 a, .int k1 b] ∧ (Lit.int k0 a).wf = true ∧ (Lit.int k1 b).wf = true := by
  obtain ⟨v0, v1, y0, y1, n, rfl, _, _, g0, g1⟩ := open_agg2 hs hone hC hv h
  obtain ⟨a, rfl, wa⟩ := one_int h0 g0
  obtain ⟨b, rfl, wb⟩ := one_int h1 g1
  exact ⟨a, b, rfl, wa, wb⟩

theorem open_ints3 {r : Reach} {b0 : Nat} {t : TypeId} {f0 f1 f2 : Field} {k0 k1 k2 : IntKind} {v : Value} {d : DataW H} {p : List MemPlace} (hs : P.underlying t = some (.struct #[f0, f1, f2])) (hone : oneCellFields P #[f0, f1, f2] = true) (hC : P.cellsOf t = 3)
    (h0 : P.underlying f0.type = some (.int k0)) (h1 : P.underlying f1.type = some (.int k1)) (h2 : P.underlying f2.type = some (.int k2)) (hv : Value.okWide P w r b0 t v) (h : DataW.Trod enc P w base spare held t v d p) :
    ∃ a b c, v = .agg #[.int k0 a, .int k1 b, .int k2 c] ∧ (Lit.int k0 a).wf = true ∧ (Lit.int k1 b).wf = true ∧ (Lit.int k2 c).wf = true := by
  obtain ⟨v0, v1, v2, y0, y1, y2, n, rfl, _, _, g0, g1, g2⟩ := open_agg3 hs hone hC hv h
  obtain ⟨a, rfl, wa⟩ := one_int h0 g0
  obtain ⟨b, rfl, wb⟩ := one_int h1 g1
  obtain ⟨c, rfl, wc⟩ := one_int h2 g2
  exact ⟨a, b, c, rfl, wa, wb, wc⟩

theorem open_pair {r : Reach} {b0 : Nat} {t e : TypeId} {k : IntKind} {v : Value} {d : DataW H} {p : List MemPlace} (hs : P.underlying t = some (.array 2 e)) (he : P.underlying e = some (.int k)) (hC : P.cellsOf t = 2) (hE : P.cellsOf e = 1)
    (hv : Value.okWide P w r b0 t v) (h : DataW.Trod enc P w base spare held t v d p) :
    ∃ a b, v = .agg #[.int k a, .int k b] ∧ (Lit.int k a).wf = true ∧ (Lit.int k b).wf = true := by
  obtain ⟨cs, rfl, hsz⟩ : ∃ cs, v = .agg cs ∧ cs.size = P.cellsOf t := by
    simp only [Value.okWide, hs] at hv
    obtain ⟨cs, h1, h2, _⟩ := hv
    exact ⟨cs, h1, h2⟩
  obtain ⟨c0, c1, rfl⟩ := array2 (hsz.trans hC)
  obtain ⟨fuel, hf⟩ := h
  obtain ⟨xs, m, _, _, _, hlen, hel⟩ := DataW.trod_array hs hf
  have e0 := hel 0 (by omega)
  have e1 := hel 1 (by omega)
  simp [Value.cells, hE] at e0 e1
  match xs, hlen with
  | [y0, y1], _ =>
    obtain ⟨a, rfl, wa⟩ := one_int he (by simpa using e0)
    obtain ⟨b, rfl, wb⟩ := one_int he (by simpa using e1)
    exact ⟨a, b, rfl, wa, wb⟩

theorem block_of {a : Addr} {v : Value} (h : w.cell? a = some v) : ∃ b off, a = ⟨b, off, none⟩ := by
  obtain ⟨b, off, spot⟩ := a
  have : spot = none := World.cell?_spot h
  subst this
  exact ⟨b, off, rfl⟩
end

/-- A slice that came in reads as a list of numbers. -/
def IsL1 (k0 : IntKind) (w : World) (v : Value) (xs : List Int) : Prop :=
  (∀ x ∈ xs, (Lit.int k0 x).wf = true) ∧
  ∃ a cap, v = .slice a xs.length cap ∧ xs.length ≤ 9223372036854775807 ∧ (0 < xs.length → ∃ b off, a = some ⟨b, off, none⟩ ∧ b < w.heap.size ∧ ∀ (i : Nat) x, xs[i]? = some x → w.cell? ⟨b, off + i, none⟩ = some (.int k0 x))
/-- .. of pairs of numbers. -/
def IsL2 (k0 k1 : IntKind) (w : World) (v : Value) (xs : List (Int × Int)) : Prop :=
  (∀ x ∈ xs, (Lit.int k0 x.1).wf = true ∧ (Lit.int k1 x.2).wf = true) ∧
  ∃ a cap, v = .slice a xs.length cap ∧ xs.length ≤ 9223372036854775807 ∧ (0 < xs.length → ∃ b off, a = some ⟨b, off, none⟩ ∧ b < w.heap.size ∧ ∀ (i : Nat) x, xs[i]? = some x → w.cell? ⟨b, off + i * 2, none⟩ = some (.int k0 x.1) ∧ w.cell? ⟨b, off + i * 2 + 1, none⟩ = some (.int k1 x.2))
/-- .. of triples of numbers. -/
def IsL3 (k0 k1 k2 : IntKind) (w : World) (v : Value) (xs : List (Int × Int × Int)) : Prop :=
  (∀ x ∈ xs, (Lit.int k0 x.1).wf = true ∧ (Lit.int k1 x.2.1).wf = true ∧ (Lit.int k2 x.2.2).wf = true) ∧
  ∃ a cap, v = .slice a xs.length cap ∧ xs.length ≤ 9223372036854775807 ∧ (0 < xs.length → ∃ b off, a = some ⟨b, off, none⟩ ∧ b < w.heap.size ∧ ∀ (i : Nat) x, xs[i]? = some x → w.cell? ⟨b, off + i * 3, none⟩ = some (.int k0 x.1) ∧ w.cell? ⟨b, off + i * 3 + 1, none⟩ = some (.int k1 x.2.1) ∧ w.cell? ⟨b, off + i * 3 + 2, none⟩ = some (.int k2 x.2.2))

section
variable {H : Type} {enc : TypeId × Value → H} {P : Program} {w : World} {base : Nat} {spare : Nat → Bool} {held : Bool}

theorem open_list1 {r : Reach} {b0 : Nat} {t e : TypeId} {k0 : IntKind} {v : Value} {d : DataW H} {p : List MemPlace} (ht : P.underlying t = some (.slice e)) (he : P.underlying e = some (.int k0)) (hE : P.cellsOf e = 1)
    (hv : Value.okWide P w r b0 t v) (h : DataW.Trod enc P w base spare held t v d p) : ∃ xs, IsL1 k0 w v xs := by
  obtain ⟨a0, len, cap, rfl⟩ := okWide_slice ht hv
  obtain ⟨fuel, hf⟩ := h
  rcases open_ints ht he hE hf with ⟨hcs, _⟩ | ⟨x, l, c, zs, hcs, _, hl, hm, hz, _, hcell, hwz⟩
  · simp [Value.cells] at hcs
    obtain ⟨rfl, rfl, rfl⟩ := hcs
    exact ⟨[], by simp, none, 0, rfl, by simp, by simp⟩
  · simp [Value.cells] at hcs
    obtain ⟨rfl, rfl, rfl⟩ := hcs
    have hlz : len ≤ zs.length := by rw [hz]; split <;> omega
    unfold maxLen at hm
    refine ⟨zs.take len, fun n hn => hwz n (List.mem_of_mem_take hn), some x, cap, by simp [Nat.min_eq_left hlz], by simp; omega, fun h0 => ?_⟩
    have h0' : 0 < zs.length := by simp at h0; omega
    have hc0 := hcell 0 h0'
    obtain ⟨b, off, hx⟩ := block_of hc0
    have hxs : x.spot = none := by simpa [Addr.add] using World.cell?_spot hc0
    obtain ⟨xb, xo, xsp⟩ := x
    simp only at hxs
    subst hxs
    refine ⟨xb, xo, rfl, ?_, fun i y hy => ?_⟩
    · simp [Addr.add] at hc0; exact cell_lt hc0
    · have hi : i < len := by
        have := (List.getElem?_eq_some_iff.1 hy).1
        simp at this; omega
      have hc := hcell i (by omega)
      have e1 : (⟨xb, xo, none⟩ : Addr).add i = ⟨xb, xo + i, none⟩ := by unfold Addr.add; by_cases h : i = 0 <;> simp [h]
      rw [e1] at hc
      rw [hc]
      rw [List.getElem?_take] at hy
      simp [hi] at hy
      simp [hy]

theorem open_rows {t e : TypeId} {fs : Array Field} {fuel : Nat} {cs : List Value} {x : DataW H × List MemPlace} (ht : P.underlying t = some (.slice e)) (he : P.underlying e = some (.struct fs))
    (hone : oneCellFields P fs = true) (hC : P.cellsOf e = fs.size) (h : DataW.trod enc P w base spare held fuel t cs = some x) :
    (cs = [.slice none 0 0]) ∨
    ∃ (a : Addr) (len cap : Nat), cs = [.slice (some a) len cap] ∧ len ≤ cap ∧ cap ≤ maxLen ∧
      ∀ i, i < len → ∀ (j : Nat) (f : Field), fs[j]? = some f → ∃ (n : Nat) (v : Value) (y : DataW H × List MemPlace), w.cell? (a.add (i * fs.size + j)) = some v ∧ DataW.trod enc P w base spare held n f.type [v] = some y := by
  rcases open_slice ht h with h0 | ⟨a, len, cap, m, n, D, Pl, hcs, hb, hl, hm, hmm, hx, hi⟩
  · exact .inl h0.1
  · refine .inr ⟨a, len, cap, hcs, hl, hm, fun i him j f hj => ?_⟩
    have him' : i < m := by rw [hmm]; split <;> omega
    obtain ⟨cs', hc, ht'⟩ := hi i him'
    rw [hC] at hc
    obtain ⟨ys, n', hn', hy, hlen, hyl, hf⟩ := DataW.trod_struct he ht'
    obtain ⟨_, hcl, hat⟩ := World.cells?_some hc
    obtain ⟨ho, hk⟩ := hone_of hone j f hj
    have hjl : j < fs.size := (Array.getElem?_eq_some_iff.1 hj).1
    have hcell := hat j hjl
    have hv : cs'[j]? = some (cs'[j]'(by omega)) := List.getElem?_eq_getElem (by omega)
    have h1 := hf j f hj
    rw [ho, hk] at h1
    have hone' : (cs'.drop j).take 1 = [cs'[j]'(by omega)] := by
      rw [List.drop_eq_getElem_cons (by omega)]
      rfl
    rw [hone'] at h1
    have hys : ys[j]? = some (ys[j]'(by omega)) := List.getElem?_eq_getElem (by omega)
    refine ⟨n', _, _, ?_, h1.trans hys⟩
    rw [← Go.Deep.add_add, hcell, hv]

/-- A function on indexes as a list. -/
theorem list_of {α : Type} (R : Nat → α → Prop) : ∀ n, (∀ i, i < n → ∃ x, R i x) → ∃ xs : List α, xs.length = n ∧ ∀ (i : Nat) x, xs[i]? = some x → R i x
  | 0, _ => ⟨[], rfl, by simp⟩
  | n + 1, h => by
    obtain ⟨xs, hl, hx⟩ := list_of R n fun i hi => h i (by omega)
    obtain ⟨x, hr⟩ := h n (by omega)
    refine ⟨xs ++ [x], by simp [hl], fun i y hy => ?_⟩
    rcases Nat.lt_or_ge i xs.length with hi | hi
    · rw [List.getElem?_append_left hi] at hy; exact hx i y hy
    · rw [List.getElem?_append_right hi] at hy
      have : i = n := by
        have := (List.getElem?_eq_some_iff.1 hy).1
        simp at this; omega
      subst this
      simp [hl] at hy
      rw [← hy]; exact hr

theorem addr_add (xb xo i : Nat) : (⟨xb, xo, none⟩ : Addr).add i = ⟨xb, xo + i, none⟩ := by unfold Addr.add; by_cases h : i = 0 <;> simp [h]

theorem open_list2 {r : Reach} {b0 : Nat} {t e : TypeId} {f0 f1 : Field} {k0 k1 : IntKind} {v : Value} {d : DataW H} {p : List MemPlace} (ht : P.underlying t = some (.slice e)) (he : P.underlying e = some (.struct #[f0, f1]))
    (hone : oneCellFields P #[f0, f1] = true) (hC : P.cellsOf e = 2) (h0 : P.underlying f0.type = some (.int k0)) (h1 : P.underlying f1.type = some (.int k1))
    (hv : Value.okWide P w r b0 t v) (h : DataW.Trod enc P w base spare held t v d p) : ∃ xs, IsL2 k0 k1 w v xs := by
  obtain ⟨a0, len, cap, rfl⟩ := okWide_slice ht hv
  obtain ⟨fuel, hf⟩ := h
  rcases open_rows ht he hone hC hf with hcs | ⟨x, l, c, hcs, hl, hm, hrow⟩
  · simp [Value.cells] at hcs
    obtain ⟨rfl, rfl, rfl⟩ := hcs
    exact ⟨[], by simp, none, 0, rfl, by simp, by simp⟩
  · simp [Value.cells] at hcs
    obtain ⟨rfl, rfl, rfl⟩ := hcs
    unfold maxLen at hm
    obtain ⟨xs, hlen, hxs⟩ := list_of (fun i (y : Int × Int) => (w.cell? (x.add (i * 2)) = some (.int k0 y.1) ∧ w.cell? (x.add (i * 2 + 1)) = some (.int k1 y.2)) ∧ (Lit.int k0 y.1).wf = true ∧ (Lit.int k1 y.2).wf = true) len (fun i hi => by
      obtain ⟨n0, v0, y0, q0, t0⟩ := hrow i hi 0 f0 rfl
      obtain ⟨n1, v1, y1, q1, t1⟩ := hrow i hi 1 f1 rfl
      obtain ⟨a, rfl, wa⟩ := one_int h0 t0
      obtain ⟨b, rfl, wb⟩ := one_int h1 t1
      exact ⟨(a, b), ⟨q0, q1⟩, wa, wb⟩)
    refine ⟨xs, fun y hy => ?_, some x, cap, by rw [hlen], by omega, fun hp => ?_⟩
    · obtain ⟨i, hi⟩ := List.getElem?_of_mem hy
      exact (hxs i y hi).2
    · have g0 := (hxs 0 _ (List.getElem?_eq_getElem hp)).1.1
      have hxs' : x.spot = none := by simpa [Addr.add] using World.cell?_spot g0
      obtain ⟨xb, xo, xsp⟩ := x
      simp only at hxs'
      subst hxs'
      refine ⟨xb, xo, rfl, ?_, fun i y hy => ?_⟩
      · rw [addr_add] at g0; exact cell_lt g0
      · have q := (hxs i y hy).1
        rw [addr_add, addr_add] at q
        exact q

theorem open_list3 {r : Reach} {b0 : Nat} {t e : TypeId} {f0 f1 f2 : Field} {k0 k1 k2 : IntKind} {v : Value} {d : DataW H} {p : List MemPlace} (ht : P.underlying t = some (.slice e)) (he : P.underlying e = some (.struct #[f0, f1, f2]))
    (hone : oneCellFields P #[f0, f1, f2] = true) (hC : P.cellsOf e = 3) (h0 : P.underlying f0.type = some (.int k0)) (h1 : P.underlying f1.type = some (.int k1)) (h2 : P.underlying f2.type = some (.int k2))
    (hv : Value.okWide P w r b0 t v) (h : DataW.Trod enc P w base spare held t v d p) : ∃ xs, IsL3 k0 k1 k2 w v xs := by
  obtain ⟨a0, len, cap, rfl⟩ := okWide_slice ht hv
  obtain ⟨fuel, hf⟩ := h
  rcases open_rows ht he hone hC hf with hcs | ⟨x, l, c, hcs, hl, hm, hrow⟩
  · simp [Value.cells] at hcs
    obtain ⟨rfl, rfl, rfl⟩ := hcs
    exact ⟨[], by simp, none, 0, rfl, by simp, by simp⟩
  · simp [Value.cells] at hcs
    obtain ⟨rfl, rfl, rfl⟩ := hcs
    unfold maxLen at hm
    obtain ⟨xs, hlen, hxs⟩ := list_of (fun i (y : Int × Int × Int) => (w.cell? (x.add (i * 3)) = some (.int k0 y.1) ∧ w.cell? (x.add (i * 3 + 1)) = some (.int k1 y.2.1) ∧ w.cell? (x.add (i * 3 + 2)) = some (.int k2 y.2.2)) ∧ (Lit.int k0 y.1).wf = true ∧ (Lit.int k1 y.2.1).wf = true ∧ (Lit.int k2 y.2.2).wf = true) len (fun i hi => by
      obtain ⟨n0, v0, y0, q0, t0⟩ := hrow i hi 0 f0 rfl
      obtain ⟨n1, v1, y1, q1, t1⟩ := hrow i hi 1 f1 rfl
      obtain ⟨n2, v2, y2, q2, t2⟩ := hrow i hi 2 f2 rfl
      obtain ⟨a, rfl, wa⟩ := one_int h0 t0
      obtain ⟨b, rfl, wb⟩ := one_int h1 t1
      obtain ⟨c, rfl, wc⟩ := one_int h2 t2
      exact ⟨(a, b, c), ⟨q0, q1, q2⟩, wa, wb, wc⟩)
    refine ⟨xs, fun y hy => ?_, some x, cap, by rw [hlen], by omega, fun hp => ?_⟩
    · obtain ⟨i, hi⟩ := List.getElem?_of_mem hy
      exact (hxs i y hi).2
    · have g0 := (hxs 0 _ (List.getElem?_eq_getElem hp)).1.1
      have hxs' : x.spot = none := by simpa [Addr.add] using World.cell?_spot g0
      obtain ⟨xb, xo, xsp⟩ := x
      simp only at hxs'
      subst hxs'
      refine ⟨xb, xo, rfl, ?_, fun i y hy => ?_⟩
      · rw [addr_add] at g0; exact cell_lt g0
      · have q := (hxs i y hy).1
        rw [addr_add, addr_add, addr_add] at q
        exact q
end
end Go.Proofs.YtpapfnfdaklnlaaDoor
