/- What slices.DeleteFunc leaves of the points: those of other names. -/
import Derived.Test.YtpapfnfdaklnlaaDoorRi
import Derived.Test.YtpapfnfdaklnlaaDoorRp
import Derived.Laws.IdiomCopy
namespace Go.Proofs.YtpapfnfdaklnlaaDoor
set_option linter.unusedVariables false
open Go.RowKit

/-! ### clear of a row's tail -/
section
variable {w : World} {B : Nat} {e : TypeId} {n : Nat}
theorem own_cells {g cap : Nat} : ∀ (zs : List Value) (o : Nat) (w : World) (xs : List Value), w.ownsRow B e 2 (.slice (some ⟨g, 0, none⟩) n cap) n xs → o + zs.length ≤ xs.length →
    ∃ ys, (w.setCells g o zs).ownsRow B e 2 (.slice (some ⟨g, 0, none⟩) n cap) n ys ∧ ys.take o = xs.take o ∧ Chg (fun k => k = g) w (w.setCells g o zs)
  | [], o, w, xs, h, _ => ⟨xs, h, rfl, Chg.refl _ _⟩
  | z :: zs, o, w, xs, h, hl => by
    obtain ⟨ys, h1, h2, h3⟩ := own_cells zs (o + 1) _ _ (own_put h (j := o) (by simp at hl; omega) z) (by simp at hl ⊢; omega)
    refine ⟨ys, h1, ?_, Chg.trans (S := fun k => k = g) (T := fun k => k = g) (b := w.setCell ⟨g, o, none⟩ z) (Chg.setCell (S := fun k => k = g) (p := ⟨g, o, none⟩) (Chg.refl _ w) (.inl rfl) z) h3 fun _ _ h => h⟩
    have := congrArg (List.take o) h2
    rw [List.take_take, List.take_take, Nat.min_eq_left (by omega)] at this
    rw [this, List.take_set_of_le (Nat.le_refl o)]
theorem own_take {g cap i : Nat} {xs : List Value} (h : w.ownsRow B e 2 (.slice (some ⟨g, 0, none⟩) n cap) n xs) (hi : i ≤ n) : w.ownsRow B e 2 (.slice (some ⟨g, 0, none⟩) i cap) i (xs.take (i * 2)) := by
  have hl := h.1
  refine ⟨by rw [List.length_take]; omega, ?_⟩
  rcases h.2 with ⟨h0, _⟩ | ⟨g', cap', cur, h0, hb, hc, h1, h2, h3, h4⟩
  · cases h0
  · injection h0 with h0 _ h5
    injection h0 with h0
    injection h0 with h0
    subst h0
    subst h5
    refine .inr ⟨g, cap, cur, rfl, hb, hc, by omega, h2, h3, ?_⟩
    rw [← h4, List.take_take, Nat.min_eq_left (by omega)]
end
def ptz : Value := .agg #[.int .u64 0, .string ⟨#[]⟩]
theorem zcells_one (m : Nat) : ∀ v ∈ (Builtin.zeroCells ptz.cells m).toList, v.oneCell' = true := by
  intro v hv
  have hc : ptz.cells = #[.int .u64 0, .string ⟨#[]⟩] := rfl
  rw [hc] at hv
  simp [Builtin.zeroCells] at hv
  obtain ⟨i, _, rfl⟩ := hv
  have : i % 2 < 2 := Nat.mod_lt _ (by decide)
  match h : i % 2 with
  | 0 => rfl
  | 1 => rfl
  | k + 2 => omega
theorem zcells_len (m : Nat) : (Builtin.zeroCells ptz.cells m).toList.length = m * 2 := by
  have hc : ptz.cells.size = 2 := rfl
  simp [Builtin.zeroCells, hc]
section
variable {w : World} {ops : Array Oper} {rest : List Oper} {o : Oper} {a : Act} {Q : Exit → Act → World → Prop}
theorem list_clear (hg : o.guard = none) (s : Operand) (hop : o.op = Op.call { callee := Callee.builtin Builtin.clear, args := #[s], argTypes := #[56] }) (B g n cap i m c : Nat) (xs : List Value) (hs : a.eval s = .slice (some ⟨g, i * 2, none⟩) m c)
    (h : w.ownsRow B 63 2 (.slice (some ⟨g, 0, none⟩) n cap) n xs) (hm : 0 < m) (hi : i + m = n)
    (hK : ∀ w', w'.ownsRow B 63 2 (.slice (some ⟨g, 0, none⟩) i cap) i (xs.take (i * 2)) → Chg (fun k => k = g) w w' → wpList Tryd.prog ops Q rest (a.put o.dst (.tuple #[])) w') : wpList Tryd.prog ops Q (o :: rest) a w := by
  refine wpList_plain hg fun K' hK' => ?_
  have hl := h.1
  have hcell : ∀ j, j < (Builtin.zeroCells ptz.cells m).toList.length → (w.cell? ⟨g, i * 2 + 0 + j, none⟩).isSome = true := fun j hj => by
    rw [zcells_len] at hj
    have := (own_cell h (j := i * 2 + 0 + j) (List.getElem?_eq_getElem (by omega))).1
    rw [this]; rfl
  have hfz : ∀ j, j < (Builtin.zeroCells ptz.cells m).toList.length → w.frozen? ⟨g, i * 2 + 0 + j, none⟩ = false := fun j hj => by
    rw [zcells_len] at hj
    exact (own_cell h (j := i * 2 + 0 + j) (List.getElem?_eq_getElem (by omega))).2.1 _
  have hst := run_storeCells_cells (P := Tryd.prog) g (i * 2) (Builtin.zeroCells ptz.cells m).toList 0 w hcell hfz (zcells_one m)
  obtain ⟨ys, h1, h2, h3⟩ := own_cells (Builtin.zeroCells ptz.cells m).toList (i * 2) w xs h (by rw [zcells_len]; omega)
  have hrun : (Builtin.clear_ #[56] o.type #[.slice (some ⟨g, i * 2, none⟩) m c]).run Tryd.prog w = .ok (.tuple #[]) (w.setCells g (i * 2) (Builtin.zeroCells ptz.cells m).toList) := by
    obtain ⟨m', rfl⟩ : ∃ m', m = m' + 1 := ⟨m - 1, by omega⟩
    simp only [Nat.add_zero] at hst
    simp [Builtin.clear_, run_underlying Tryd.underlying56]
    have hst' := hst
    unfold ptz at hst' ⊢
    rw [hst']
    rfl
  unfold Oper.wp
  simp [execOp, hop, resolve, invoke, builtin, hs, hrun, Result.andThen]
  refine hK' _ _ (hK _ ?_ h3)
  have := own_take h1 (i := i) (by omega)
  rwa [h2] at this
end
/-! ### plain -/
theorem flatP_set {L : List Pt} {i : Nat} {x : Pt} (h : i < L.length) : ((flatP L).set (i * 2) (.int .u64 x.1)).set (i * 2 + 1) (.string x.2) = flatP (L.set i x) := by
  induction L generalizing i with
  | nil => simp at h
  | cons y L ih =>
    cases i with
    | zero => simp [flatP, encP]
    | succ i =>
      have e : (i + 1) * 2 = i * 2 + 1 + 1 := by omega
      have := ih (i := i) (by simpa using h)
      rw [e]
      simpa [flatP, encP] using this
theorem flatP_take {L : List Pt} {i : Nat} : (flatP L).take (i * 2) = flatP (L.take i) := by
  induction L generalizing i with
  | nil => simp [flatP]
  | cons y L ih =>
    cases i with
    | zero => simp [flatP]
    | succ i =>
      have e : (i + 1) * 2 = i * 2 + 1 + 1 := by omega
      have := ih (i := i)
      rw [e]
      simpa [flatP, encP] using this
theorem eq_bytes (x m : ByteArray) : (x.toList == m.toList) = decide (x = m) := by
  by_cases h : x = m
  · subst h; simp
  · have : x.toList ≠ m.toList := fun e => h (bytes_inj e)
    simp [h, this]
def keepP (m : ByteArray) (p : Pt) : Bool := decide (p.2 ≠ m)
/-- Where the walk stands: M's first i are what is kept of L's first j, behind j all is as it was. -/
structure Del (L M : List Pt) (m : ByteArray) (i j : Nat) : Prop where
  lt : i < j
  le : j ≤ L.length
  len : M.length = L.length
  ahead : M.take i = (L.take j).filter (keepP m)
  behind : M.drop j = L.drop j
theorem Del.at {L M : List Pt} {m : ByteArray} {i j : Nat} (h : Del L M m i j) : M[j]? = L[j]? := by
  have := congrArg (·[0]?) h.behind
  simpa using this
theorem Del.drop {L M : List Pt} {m : ByteArray} {i j : Nat} {x : Pt} (h : Del L M m i j) (hx : L[j]? = some x) (hn : x.2 = m) : Del L M m i (j + 1) := by
  have hj := (List.getElem?_eq_some_iff.1 hx).1
  refine ⟨by have := h.lt; omega, hj, h.len, ?_, ?_⟩
  · rw [h.ahead, List.take_add_one, hx]; simp [keepP, hn]
  · have := congrArg (List.drop 1) h.behind
    simpa [List.drop_drop] using this
theorem Del.keep {L M : List Pt} {m : ByteArray} {i j : Nat} {x : Pt} (h : Del L M m i j) (hx : L[j]? = some x) (hn : x.2 ≠ m) : Del L (M.set i x) m (i + 1) (j + 1) := by
  have hj := (List.getElem?_eq_some_iff.1 hx).1
  have hij := h.lt
  refine ⟨by omega, hj, by simpa using h.len, ?_, ?_⟩
  · rw [List.take_add_one, List.take_set_of_le (Nat.le_refl _), h.ahead, List.take_add_one, hx]
    have : i < M.length := by rw [h.len]; omega
    simp [keepP, hn, this]
  · have := congrArg (List.drop 1) h.behind
    rw [List.drop_set_of_lt (by omega)]
    simpa [List.drop_drop] using this
theorem Del.first {L : List Pt} {m : ByteArray} {k : Nat} {x : Pt} (hx : L[k]? = some x) (hn : x.2 = m) (h : ∀ (i : Nat) y, L[i]? = some y → i < k → y.2 ≠ m) : Del L L m k (k + 1) := by
  have hk := (List.getElem?_eq_some_iff.1 hx).1
  refine ⟨by omega, hk, rfl, ?_, rfl⟩
  rw [List.take_add_one, hx, List.filter_append]
  have e : (L.take k).filter (keepP m) = L.take k := List.filter_eq_self.2 fun y hy => by
    obtain ⟨i, hi, rfl⟩ := List.mem_take_iff_getElem.1 hy
    have := h i L[i] (List.getElem?_eq_getElem (by omega)) (by omega)
    simpa [keepP] using this
  simp [e, keepP, hn]
theorem Del.last {L M : List Pt} {m : ByteArray} {i j : Nat} (h : Del L M m i j) (hj : ¬ j < L.length) : M.take i = L.filter (keepP m) := by
  rw [h.ahead, List.take_of_length_le (by omega)]
end Go.Proofs.YtpapfnfdaklnlaaDoor
