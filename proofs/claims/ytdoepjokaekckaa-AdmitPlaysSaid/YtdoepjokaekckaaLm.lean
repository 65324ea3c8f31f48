/- A map from numbers to pointers, of the call's own. -/
import Derived.Test.YtdoepjokaekckaaLc
import Derived.Maps.OwnSet
namespace Go.Proofs.Ytdoepjokaekckaa
set_option linter.unusedVariables false
open Go.RowKit Go.Maps

theorem keyL : Keyed Try.prog 2 := int_keyed Try.underlying2
theorem zeroP (w : World) : (zeroValue 104).run Try.prog w = .ok (.pointer none) w := by kernel_rfl
def kL (x : Int) : Lit := .int .i64 x
def vP : Option Nat → DataW Unit
  | none => .lit (.int .i64 (-1))
  | some p => .lit (.int .i64 p)
theorem vP_inj {a b : Option Nat} (h : vP a = vP b) : a = b := by
  cases a with
  | none =>
    cases b with
    | none => rfl
    | some q => unfold vP at h; injection h with h; injection h with _ h; omega
  | some p =>
    cases b with
    | none => unfold vP at h; injection h with h; injection h with _ h; omega
    | some q => unfold vP at h; injection h with h; injection h with _ h; have : p = q := by omega
                rw [this]
theorem kL_ne {x y : Int} (h : x ≠ y) : kL x ≠ kL y := fun e => h (by unfold kL at e; injection e)
theorem kL_key (x : Int) : WideAt.IsKeyLit (kL x) := trivial
/-- How a pointer to a whole block reads. -/
def ptrE (v : Value) : Option (DataW Unit × List MemPlace) :=
  match v with
  | .pointer none => some (vP none, [])
  | .pointer (some ⟨p, 0, none⟩) => some (vP (some p), [])
  | _ => none
theorem ptrE_mk (o : Option Nat) : ptrE (ptr o) = some (vP o, []) := by cases o <;> rfl
theorem ptrE_inv {v : Value} {z : DataW Unit × List MemPlace} (h : ptrE v = some z) : ∃ o, v = ptr o ∧ z = (vP o, []) := by
  unfold ptrE at h
  split at h
  · exact ⟨none, rfl, by injection h with h; exact h.symm⟩
  · exact ⟨some _, rfl, by injection h with h; exact h.symm⟩
  · cases h
structure PtD (D : DataW Unit) (M : Int → Option Nat) : Prop where
  at_ : ∀ x, D.atKey (kL x) (vP none) = vP (M x)
  has : ∀ x, Maps.has D (kL x) = (M x).isSome
theorem ptD_empty : PtD (.map []) (fun _ => none) := ⟨fun x => by simp [DataW.atKey], fun x => by simp [Maps.has]⟩
theorem PtD.put {D : DataW Unit} {M : Int → Option Nat} (h : PtD D M) (t : Tidy D) (x : Int) (p : Nat) : PtD (D.put (kL x) (vP (some p))) (fun y => if y = x then some p else M y) := by
  refine ⟨fun y => ?_, fun y => ?_⟩
  · by_cases e : y = x
    · subst e
      rw [atKey_put_same t.isMap (kL_key y), if_pos rfl]
    · rw [atKey_put_other (kL_ne e), h.at_, if_neg e]
  · by_cases e : y = x
    · subst e
      rw [has_put_same t.isMap (kL_key y), if_pos rfl]; rfl
    · rw [has_put_other (kL_ne e), h.has, if_neg e]
theorem PtD.del {D : DataW Unit} {M : Int → Option Nat} (h : PtD D M) (x : Int) : PtD (D.del (kL x)) (fun y => if y = x then none else M y) := by
  refine ⟨fun y => ?_, fun y => ?_⟩
  · by_cases e : y = x
    · subst e
      rw [atKey_del_same, if_pos rfl]
    · rw [atKey_del_other (kL_ne e), h.at_, if_neg e]
  · by_cases e : y = x
    · subst e
      rw [has_del_same, if_pos rfl]; rfl
    · rw [has_del_other (kL_ne e), h.has, if_neg e]
/-- Block m is a map that tells M. -/
def PtM (w : World) (m N : Nat) (M : Int → Option Nat) : Prop := ∃ D : DataW Unit, w.ownsMap Try.prog 2 ptrE m N D ∧ PtD D M
theorem PtM.block {w w' : World} {m N : Nat} {M : Int → Option Nat} (h : PtM w m N M) (e : w'.heap[m]? = w.heap[m]?) : PtM w' m N M := by
  obtain ⟨D, ⟨es, clock, hb, r⟩, hD⟩ := h
  exact ⟨D, ⟨es, clock, by rw [e]; exact hb, r⟩, hD⟩
theorem PtM.lt {w : World} {m N : Nat} {M : Int → Option Nat} (h : PtM w m N M) : m < w.heap.size := by obtain ⟨D, h1, _⟩ := h; exact h1.lt
theorem PtM.chg {S : Nat → Prop} {w w' : World} {m N : Nat} {M : Int → Option Nat} (h : PtM w m N M) (k : Chg S w w') (hb : ¬ S m) : PtM w' m N M := h.block (k.block m h.lt hb)
theorem PtM.mono {w : World} {m N N' : Nat} {M : Int → Option Nat} (h : PtM w m N M) (hn : N ≤ N') : PtM w m N' M := by obtain ⟨D, h1, h2⟩ := h; exact ⟨D, h1.mono hn, h2⟩
theorem PtM.congr {w : World} {m N : Nat} {M M' : Int → Option Nat} (h : PtM w m N M) (e : ∀ x, M x = M' x) : PtM w m N M' := by
  have : M = M' := funext e
  rw [← this]; exact h
theorem PtM.cell {w : World} {m N : Nat} {M : Int → Option Nat} (h : PtM w m N M) {o : Nat} {v : Value} {b : Nat} (hc : w.cell? ⟨b, o, none⟩ = some v) : m ≠ b := by
  rintro rfl
  obtain ⟨D, ⟨es, clock, hb, r⟩, hD⟩ := h
  simp [World.cell?, hb] at hc
theorem ptM_made (w : World) : PtM (w.alloc (.map #[] 0)) w.heap.size 0 (fun _ => none) := ⟨_, World.ownsMap_made _ _ _ _, ptD_empty⟩
/-- A map's value: nil, or such a block. -/
def MapV (w : World) (v : Value) (N : Nat) (M : Int → Option Nat) : Prop := (v = .map none ∧ ∀ x, M x = none) ∨ ∃ m, v = .map (some m) ∧ PtM w m N M
theorem MapV.chg {S : Nat → Prop} {w w' : World} {v : Value} {N : Nat} {M : Int → Option Nat} (h : MapV w v N M) (k : Chg S w w') (hb : ∀ m, v = .map (some m) → ¬ S m) : MapV w' v N M := by
  rcases h with h | ⟨m, rfl, h⟩
  · exact .inl h
  · exact .inr ⟨m, rfl, h.chg k (hb m rfl)⟩
theorem MapV.mono {w : World} {v : Value} {N N' : Nat} {M : Int → Option Nat} (h : MapV w v N M) (hn : N ≤ N') : MapV w v N' M := by
  rcases h with h | ⟨m, rfl, h⟩
  · exact .inl h
  · exact .inr ⟨m, rfl, h.mono hn⟩
theorem MapV.congr {w : World} {v : Value} {N : Nat} {M M' : Int → Option Nat} (h : MapV w v N M) (e : ∀ x, M x = M' x) : MapV w v N M' := by
  have : M = M' := funext e
  rw [← this]; exact h
theorem MapV.get {w : World} {v : Value} {N : Nat} {M : Int → Option Nat} (h : MapV w v N M) {x : Int} (hx : (Lit.int .i64 x).wf = true) : (Instr.lookup 103 v (.int .i64 x) true).run Try.prog w = .ok (.tuple #[ptr (M x), .bool (M x).isSome]) w := by
  rcases h with ⟨rfl, h⟩ | ⟨m, rfl, D, h1, hD⟩
  · rw [h x]
    exact Maps.look_nil true keyL Try.underlying103 (zeroP w) (keyOf_int_mk Try.underlying2 hx)
  · obtain ⟨u, ps, hrun, hv⟩ := h1.look_ok keyL Try.underlying103 (zeroP w) (ptrE_mk none) (keyOf_int_mk Try.underlying2 hx)
    obtain ⟨o, rfl, hy⟩ := ptrE_inv hv
    have h2 : D.atKey (kL x) (vP none) = vP o := congrArg Prod.fst hy
    rw [hD.at_] at h2
    have h3 := vP_inj h2
    subst h3
    have h4 : Maps.has D (kL x) = (M x).isSome := hD.has x
    rw [← h4]; exact hrun

section
variable {w : World} {ops : Array Oper} {rest : List Oper} {o : Oper} {a : Act} {Q : Exit → Act → World → Prop}
theorem list_look (hg : o.guard = none) (m x : Operand) (hop : o.op = Op.lookup 103 m x true) (v : Value) (N : Nat) (M : Int → Option Nat) (hm : a.eval m = v) (h : MapV w v N M) (y : Int) (hx : a.eval x = .int .i64 y) (hw : (Lit.int .i64 y).wf = true)
    (hK : wpList Try.prog ops Q rest (a.put o.dst (.tuple #[ptr (M y), .bool (M y).isSome])) w) : wpList Try.prog ops Q (o :: rest) a w := by
  refine wpList_plain hg fun K' hK' => ?_
  unfold Oper.wp
  simp [execOp, hop, hm, hx, h.get hw, Result.andThen]
  exact hK' _ _ hK
theorem list_pput (hg : o.guard = none) (m x v : Operand) (hop : o.op = Op.mapUpdate 103 m x v) (b N : Nat) (M : Int → Option Nat) (hm : a.eval m = .map (some b)) (h : PtM w b N M) (hn : N ≤ 100000000) (y : Int) (hx : a.eval x = .int .i64 y) (p : Nat) (hv : a.eval v = .pointer (some ⟨p, 0, none⟩)) (hw : (Lit.int .i64 y).wf = true)
    (hK : ∀ w', PtM w' b (N + 1) (fun z => if z = y then some p else M z) → Chg (fun k => k = b) w w' → wpList Try.prog ops Q rest (a.put o.dst undef) w') : wpList Try.prog ops Q (o :: rest) a w := by
  obtain ⟨D, h1, hD⟩ := h
  refine wpList_mapUpdate_own (H := Unit) w hg m x v _ hop _ _ keyL Try.underlying103 _ b _ D hm h1 (by unfold maxLen; omega) _ _ (kL y) hx hv (keyOf_int_mk Try.underlying2 hw) (vP (some p)) [] (ptrE_mk (some p)) fun w' hw' hg' => hK w' ?_ (grown_chg hg' (fun k hk => by injection hk with hk; exact hk.symm))
  exact ⟨_, hw', hD.put (h1.tidy keyL) y p⟩
theorem list_pdel (hg : o.guard = none) (m x : Operand) (hop : o.op = Op.call { callee := Callee.builtin Builtin.delete, args := #[m, x], argTypes := #[103, 2] }) (b N : Nat) (M : Int → Option Nat) (hm : a.eval m = .map (some b)) (h : PtM w b N M) (y : Int) (hx : a.eval x = .int .i64 y) (hw : (Lit.int .i64 y).wf = true)
    (hK : ∀ w', PtM w' b N (fun z => if z = y then none else M z) → Chg (fun k => k = b) w w' → wpList Try.prog ops Q rest (a.put o.dst (.tuple #[])) w') : wpList Try.prog ops Q (o :: rest) a w := by
  obtain ⟨D, h1, hD⟩ := h
  refine wpList_delete_own w hg m x _ _ hop _ keyL Try.underlying103 _ b _ D hm h1 _ (kL y) hx (keyOf_int_mk Try.underlying2 hw) fun w' hw' ht => hK w' ?_ (grown_chg ht.grown (fun k hk => by injection hk with hk; exact hk.symm))
  exact ⟨_, hw', hD.del y⟩
end
end Go.Proofs.Ytdoepjokaekckaa
