/- A set of numbers, as a map[int64]bool of the call's own. -/
import Derived.Test.YtjeclknahjnhoaaLi
import Derived.Maps.OwnSet
namespace Go.Proofs.Ytjeclknahjnhoaa
set_option linter.unusedVariables false
open Go.RowKit Go.Maps

theorem keyI : Keyed Try.prog 2 := int_keyed Try.underlying2
theorem zeroB (w : World) : (zeroValue 4).run Try.prog w = .ok (.bool false) w := by kernel_rfl
def kI (x : Int) : Lit := .int .i64 x
def vB (b : Bool) : DataW Unit := .lit (.bool b)
theorem kI_ne {x y : Int} (h : x ≠ y) : kI x ≠ kI y := fun e => h (by unfold kI at e; injection e)
theorem kI_key (x : Int) : WideAt.IsKeyLit (kI x) := trivial
structure SetD (D : DataW Unit) (Y : List Int) : Prop where
  nodup : Y.Nodup
  size : Maps.size D = Y.length
  at_ : ∀ x, D.atKey (kI x) (vB false) = vB (decide (x ∈ Y))
  has : ∀ x, Maps.has D (kI x) = decide (x ∈ Y)
theorem setD_empty : SetD (.map []) [] := ⟨List.nodup_nil, rfl, fun x => by simp [DataW.atKey], fun x => by simp [Maps.has]⟩
theorem SetD.put {D : DataW Unit} {Y : List Int} (h : SetD D Y) (t : Tidy D) {x : Int} (hx : x ∉ Y) : SetD (D.put (kI x) (vB true)) (x :: Y) := by
  refine ⟨List.nodup_cons.2 ⟨hx, h.nodup⟩, ?_, fun y => ?_, fun y => ?_⟩
  · rw [size_put t, h.has, decide_eq_false hx, h.size]; rfl
  · by_cases e : y = x
    · subst e
      rw [atKey_put_same t.isMap (kI_key y)]
      simp
    · rw [atKey_put_other (kI_ne e), h.at_]
      simp [e]
  · by_cases e : y = x
    · subst e
      rw [has_put_same t.isMap (kI_key y)]
      simp
    · rw [has_put_other (kI_ne e), h.has]
      simp [e]
theorem SetD.del {D : DataW Unit} {Y : List Int} (h : SetD D Y) (t : Tidy D) (x : Int) : SetD (D.del (kI x)) (Y.erase x) := by
  refine ⟨h.nodup.erase x, ?_, fun y => ?_, fun y => ?_⟩
  · have h1 := size_del (k := kI x) t
    rw [h.has, h.size] at h1
    by_cases hx : x ∈ Y
    · rw [List.length_erase_of_mem hx]
      simp [hx] at h1
      omega
    · rw [List.erase_of_not_mem hx]
      simp [hx] at h1
      omega
  · by_cases e : y = x
    · subst e
      rw [atKey_del_same]
      simp [h.nodup.mem_erase_iff]
    · rw [atKey_del_other (kI_ne e), h.at_]
      simp [h.nodup.mem_erase_iff, e]
  · by_cases e : y = x
    · subst e
      rw [has_del_same]
      simp [h.nodup.mem_erase_iff]
    · rw [has_del_other (kI_ne e), h.has]
      simp [h.nodup.mem_erase_iff, e]

/-- Block b is a map that holds just Y. -/
def SetM (w : World) (b : Nat) (Y : List Int) : Prop := ∃ D : DataW Unit, w.ownsMap Try.prog 2 (plainElem Try.prog 4) b Y.length D ∧ SetD D Y
theorem SetM.block {w w' : World} {b : Nat} {Y : List Int} (h : SetM w b Y) (e : w'.heap[b]? = w.heap[b]?) : SetM w' b Y := by
  obtain ⟨D, ⟨es, clock, hb, r⟩, hD⟩ := h
  exact ⟨D, ⟨es, clock, by rw [e]; exact hb, r⟩, hD⟩
theorem SetM.lt {w : World} {b : Nat} {Y : List Int} (h : SetM w b Y) : b < w.heap.size := by obtain ⟨D, h1, _⟩ := h; exact h1.lt
theorem SetM.chg {S : Nat → Prop} {w w' : World} {b : Nat} {Y : List Int} (h : SetM w b Y) (k : Chg S w w') (hb : ¬ S b) : SetM w' b Y := h.block (k.block b h.lt hb)
theorem setM_made (w : World) : SetM (w.alloc (.map #[] 0)) w.heap.size [] := ⟨_, World.ownsMap_made _ _ _ _, setD_empty⟩
theorem plainElem_bool_inv {v : Value} {z : DataW Unit × List MemPlace} (h : plainElem Try.prog 4 v = some z) : ∃ x, v = .bool x ∧ z.1 = vB x := by
  have he := Try.underlying4
  unfold plainElem at h
  rw [he] at h
  cases v <;> simp at h
  rename_i x
  exact ⟨x, rfl, by rw [← h]; rfl⟩
theorem SetM.get {w : World} {b : Nat} {Y : List Int} (h : SetM w b Y) {x : Int} (hx : (Lit.int .i64 x).wf = true) : (Instr.lookup 46 (.map (some b)) (.int .i64 x) false).run Try.prog w = .ok (.bool (decide (x ∈ Y))) w := by
  obtain ⟨D, h1, hD⟩ := h
  obtain ⟨v, ps, hrun, hv⟩ := h1.lookup keyI Try.underlying46 (zeroB w) (plainElem_bool Try.underlying4 false) (keyOf_int_mk Try.underlying2 hx)
  obtain ⟨y, rfl, hy⟩ := plainElem_bool_inv hv
  have h2 : D.atKey (kI x) (vB false) = vB y := hy
  rw [hD.at_] at h2
  have h3 : decide (x ∈ Y) = y := by unfold vB at h2; injection h2 with h2; injection h2
  rw [h3]; exact hrun

section
variable {w : World} {ops : Array Oper} {rest : List Oper} {o : Oper} {a : Act} {Q : Exit → Act → World → Prop}
theorem list_put (hg : o.guard = none) (m x v : Operand) (hop : o.op = Op.mapUpdate 46 m x v) (b : Nat) (Y : List Int) (hm : a.eval m = .map (some b)) (h : SetM w b Y) (hn : Y.length ≤ 100000000) (y : Int) (hx : a.eval x = .int .i64 y) (hv : a.eval v = .bool true) (hw : (Lit.int .i64 y).wf = true) (hy : y ∉ Y)
    (hK : ∀ w', SetM w' b (y :: Y) → Chg (fun k => k = b) w w' → wpList Try.prog ops Q rest (a.put o.dst undef) w') : wpList Try.prog ops Q (o :: rest) a w := by
  obtain ⟨D, h1, hD⟩ := h
  refine wpList_mapUpdate_own (H := Unit) w hg m x v _ hop _ _ keyI Try.underlying46 _ b _ D hm h1 (by unfold maxLen; omega) _ _ (kI y) hx hv (keyOf_int_mk Try.underlying2 hw) (vB true) [] (plainElem_bool Try.underlying4 true) fun w' hw' hg' => hK w' ?_ (grown_chg hg' (fun k hk => by injection hk with hk; exact hk.symm))
  exact ⟨_, hw', hD.put (h1.tidy keyI) hy⟩
theorem list_del (hg : o.guard = none) (m x : Operand) (hop : o.op = Op.call { callee := Callee.builtin Builtin.delete, args := #[m, x], argTypes := #[46, 2] }) (b : Nat) (Y : List Int) (hm : a.eval m = .map (some b)) (h : SetM w b Y) (y : Int) (hx : a.eval x = .int .i64 y) (hw : (Lit.int .i64 y).wf = true)
    (hK : ∀ w', SetM w' b (Y.erase y) → Chg (fun k => k = b) w w' → wpList Try.prog ops Q rest (a.put o.dst (.tuple #[])) w') : wpList Try.prog ops Q (o :: rest) a w := by
  obtain ⟨D, h1, hD⟩ := h
  refine wpList_delete_own w hg m x _ _ hop _ keyI Try.underlying46 _ b _ D hm h1 _ (kI y) hx (keyOf_int_mk Try.underlying2 hw) fun w' hw' ht => hK w' ?_ (grown_chg ht.grown (fun k hk => by injection hk with hk; exact hk.symm))
  have hD2 := hD.del (h1.tidy keyI) y
  refine ⟨_, ?_, hD2⟩
  obtain ⟨es, clock, hb, F, _, hd⟩ := hw'
  refine ⟨es, clock, hb, F, ?_, hd⟩
  have hs := hD2.size
  rw [hd, size_eq, length_read] at hs
  omega
theorem list_len (hg : o.guard = none) (m : Operand) (hop : o.op = Op.call { callee := Callee.builtin Builtin.len, args := #[m], argTypes := #[46] }) (b : Nat) (Y : List Int) (hm : a.eval m = .map (some b)) (h : SetM w b Y)
    (hK : wpList Try.prog ops Q rest (a.put o.dst (.int .i64 (Y.length : Int))) w) : wpList Try.prog ops Q (o :: rest) a w := by
  obtain ⟨D, h1, hD⟩ := h
  refine wpList_len_own w hg m _ hop _ _ Try.underlying46 _ b _ D hm h1 ?_
  rw [hD.size]; exact hK
theorem list_get (hg : o.guard = none) (m x : Operand) (hop : o.op = Op.lookup 46 m x false) (b : Nat) (Y : List Int) (hm : a.eval m = .map (some b)) (h : SetM w b Y) (y : Int) (hx : a.eval x = .int .i64 y) (hw : (Lit.int .i64 y).wf = true)
    (hK : wpList Try.prog ops Q rest (a.put o.dst (.bool (decide (y ∈ Y)))) w) : wpList Try.prog ops Q (o :: rest) a w := by
  refine wpList_plain hg fun K' hK' => ?_
  unfold Oper.wp
  simp [execOp, hop, hm, hx, h.get hw, Result.andThen]
  exact hK' _ _ hK
end
end Go.Proofs.Ytjeclknahjnhoaa
