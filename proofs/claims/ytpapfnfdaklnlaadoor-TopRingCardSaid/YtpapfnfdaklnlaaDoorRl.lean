/- Maps keyed by texts, of the call's own: which keys are there. -/
import Derived.Test.YtpapfnfdaklnlaaDoorOwn
import Derived.Maps.OwnSet
import Derived.Carry
import Derived.StringKeys
namespace Go.Proofs.YtpapfnfdaklnlaaDoor
set_option linter.unusedVariables false
open Go.RowKit Go.Maps

theorem keyS : Keyed Tryd.prog 9 := string_keyed Tryd.underlying9
theorem zeroI (w : World) : (zeroValue 3).run Tryd.prog w = .ok (.int .i64 0) w := by kernel_rfl
theorem zeroB (w : World) : (zeroValue 4).run Tryd.prog w = .ok (.bool false) w := by kernel_rfl
def kS (s : List UInt8) : Lit := .string s
theorem kS_ne {x y : List UInt8} (h : x ≠ y) : kS x ≠ kS y := fun e => h (by unfold kS at e; injection e)
theorem kS_key (x : List UInt8) : WideAt.IsKeyLit (kS x) := trivial
/-- Which keys are there. -/
def HsD (D : DataW Unit) (K : List UInt8 → Bool) : Prop := ∀ s, Maps.has D (kS s) = K s
theorem hsD_empty : HsD (.map []) (fun _ => false) := fun x => by simp [Maps.has]
theorem HsD.put {D : DataW Unit} {K : List UInt8 → Bool} (h : HsD D K) (t : Tidy D) (s : List UInt8) (d : DataW Unit) : HsD (D.put (kS s) d) (fun y => decide (y = s) || K y) := fun y => by
  show _ = (decide (y = s) || K y)
  by_cases e : y = s
  · subst e
    rw [has_put_same t.isMap (kS_key y)]; simp
  · rw [has_put_other (kS_ne e), h]; simp [e]
theorem HsD.del {D : DataW Unit} {K : List UInt8 → Bool} (h : HsD D K) (s : List UInt8) : HsD (D.del (kS s)) (fun y => decide (y ≠ s) && K y) := fun y => by
  show _ = (decide (y ≠ s) && K y)
  by_cases e : y = s
  · subst e
    rw [has_del_same]; simp
  · rw [has_del_other (kS_ne e), h]; simp [e]
theorem size_pos {D : DataW Unit} {k : Lit} (h : Maps.has D k = true) : 0 < Maps.size D := by
  unfold Maps.has at h
  unfold Maps.size
  split at h
  · rename_i es
    cases es with
    | nil => simp at h
    | cons => simp
  · cases h
/-- Block m is a map from texts to numbers with the keys K. -/
def KsM (w : World) (m N : Nat) (K : List UInt8 → Bool) : Prop := ∃ D : DataW Unit, w.ownsMap Tryd.prog 9 (plainElem Tryd.prog 3) m N D ∧ HsD D K
section
variable {w w' : World} {m N : Nat} {K : List UInt8 → Bool} {v : Value}
theorem KsM.block (h : KsM w m N K) (e : w'.heap[m]? = w.heap[m]?) : KsM w' m N K := by
  obtain ⟨D, ⟨es, clock, hb, r⟩, hD⟩ := h
  exact ⟨D, ⟨es, clock, by rw [e]; exact hb, r⟩, hD⟩
theorem KsM.lt (h : KsM w m N K) : m < w.heap.size := by obtain ⟨D, h1, _⟩ := h; exact h1.lt
theorem KsM.chg {S : Nat → Prop} (h : KsM w m N K) (k : Chg S w w') (hb : ¬ S m) : KsM w' m N K := h.block (k.block m h.lt hb)
theorem KsM.mono (h : KsM w m N K) {N' : Nat} (hn : N ≤ N') : KsM w m N' K := by obtain ⟨D, h1, h2⟩ := h; exact ⟨D, h1.mono hn, h2⟩
theorem KsM.not (h : KsM w m N K) {b : Nat} {cs : Array Value} {t : TypeId} {fr : Nat × Nat} (hc : w.heap[b]? = some (.cells cs t fr)) : m ≠ b := by
  rintro rfl
  obtain ⟨D, ⟨es, clock, hb, r⟩, hD⟩ := h
  rw [hb] at hc
  cases hc
theorem KsM.cell (h : KsM w m N K) {o : Nat} {u : Value} {b : Nat} (hc : w.cell? ⟨b, o, none⟩ = some u) : m ≠ b := by
  rintro rfl
  obtain ⟨D, ⟨es, clock, hb, r⟩, hD⟩ := h
  simp [World.cell?, hb] at hc
theorem ksM_made (w : World) : KsM (w.alloc (.map #[] 0)) w.heap.size 0 (fun _ => false) := ⟨_, World.ownsMap_made _ _ _ _, hsD_empty⟩
/-- A map's value: nil, or such a block. -/
def KsV (w : World) (v : Value) (N : Nat) (K : List UInt8 → Bool) : Prop := (v = .map none ∧ ∀ x, K x = false) ∨ ∃ m, v = .map (some m) ∧ KsM w m N K
theorem KsV.chg {S : Nat → Prop} (h : KsV w v N K) (k : Chg S w w') (hb : ∀ m, v = .map (some m) → ¬ S m) : KsV w' v N K := by
  rcases h with h | ⟨m, rfl, h⟩
  · exact .inl h
  · exact .inr ⟨m, rfl, h.chg k (hb m rfl)⟩
theorem KsV.mono (h : KsV w v N K) {N' : Nat} (hn : N ≤ N') : KsV w v N' K := by
  rcases h with h | ⟨m, rfl, h⟩
  · exact .inl h
  · exact .inr ⟨m, rfl, h.mono hn⟩
theorem KsV.lt (h : KsV w v N K) {m : Nat} (hv : v = .map (some m)) : m < w.heap.size := by
  rcases h with ⟨rfl, _⟩ | ⟨m', rfl, h⟩
  · cases hv
  · injection hv with hv; injection hv with hv; subst hv; exact h.lt
theorem KsV.cell (h : KsV w v N K) {m b o : Nat} {u : Value} (hv : v = .map (some m)) (hc : w.cell? ⟨b, o, none⟩ = some u) : m ≠ b := by
  rcases h with ⟨rfl, _⟩ | ⟨m', rfl, h⟩
  · cases hv
  · injection hv with hv; injection hv with hv; subst hv; exact h.cell hc
theorem KsV.not (h : KsV w v N K) {m b : Nat} {cs : Array Value} {t : TypeId} {fr : Nat × Nat} (hv : v = .map (some m)) (hc : w.heap[b]? = some (.cells cs t fr)) : m ≠ b := by
  rcases h with ⟨rfl, _⟩ | ⟨m', rfl, h⟩
  · cases hv
  · injection hv with hv; injection hv with hv; subst hv; exact h.not hc
theorem KsV.look (h : KsV w v N K) {s : ByteArray} (hs : s.size ≤ maxLen) : ∃ c, (Instr.lookup 55 v (.string s) true).run Tryd.prog w = .ok (.tuple #[.int .i64 c, .bool (K s.data.toList)]) w := by
  rcases h with ⟨rfl, h⟩ | ⟨m, rfl, D, h1, hD⟩
  · rw [h]
    exact ⟨0, Maps.look_nil true keyS Tryd.underlying55 (zeroI w) (Go.WideMaps.keyOf_string_mk Tryd.underlying9 hs)⟩
  · obtain ⟨v, ps, hrun, hv⟩ := h1.look_ok keyS Tryd.underlying55 (zeroI w) (zd := .lit (.int .i64 0)) (zp := []) (plainElem_int Tryd.underlying3 (by decide)) (Go.WideMaps.keyOf_string_mk Tryd.underlying9 hs)
    obtain ⟨c, rfl, _, _⟩ := plainElem_int_inv Tryd.underlying3 hv
    have e : Maps.has D (Lit.string s.data.toList) = K s.data.toList := hD s.data.toList
    rw [e] at hrun
    exact ⟨c, hrun⟩
theorem KsV.len (h : KsV w v N K) (ty : TypeId) : ∃ n : Nat, (Builtin.len_ #[55] ty #[v]).run Tryd.prog w = .ok (.int .i64 n) w ∧ n ≤ N ∧ ∀ s, K s = true → 0 < n := by
  rcases h with ⟨rfl, h⟩ | ⟨m, rfl, D, h1, hD⟩
  · exact ⟨0, Maps.len_nil Tryd.underlying55 ty, Nat.zero_le _, fun s hs => by rw [h] at hs; cases hs⟩
  · exact ⟨Maps.size D, h1.len Tryd.underlying55 ty, h1.size_le, fun s hs => size_pos (k := kS s) (by rw [hD]; exact hs)⟩
end
section
variable {w : World} {ops : Array Oper} {rest : List Oper} {o : Oper} {a : Act} {Q : Exit → Act → World → Prop}
theorem list_klook (hg : o.guard = none) (m x : Operand) (hop : o.op = Op.lookup 55 m x true) (v : Value) (N : Nat) (K : List UInt8 → Bool) (hm : a.eval m = v) (h : KsV w v N K) (s : ByteArray) (hx : a.eval x = .string s) (hs : s.size ≤ maxLen) (kb : Bool) (hkb : K s.data.toList = kb)
    (hK : ∀ c, wpList Tryd.prog ops Q rest (a.put o.dst (.tuple #[.int .i64 c, .bool kb])) w) : wpList Tryd.prog ops Q (o :: rest) a w := by
  refine wpList_plain hg fun K' hK' => ?_
  obtain ⟨c, hrun⟩ := h.look hs
  rw [hkb] at hrun
  unfold Oper.wp
  simp [execOp, hop, hm, hx, hrun, Result.andThen]
  exact hK' _ _ (hK c)
theorem list_klen (hg : o.guard = none) (m : Operand) (hop : o.op = Op.call { callee := Callee.builtin Builtin.len, args := #[m], argTypes := #[55] }) (v : Value) (N : Nat) (K : List UInt8 → Bool) (hm : a.eval m = v) (h : KsV w v N K)
    (hK : ∀ n : Nat, n ≤ N → (∀ s, K s = true → 0 < n) → wpList Tryd.prog ops Q rest (a.put o.dst (.int .i64 n)) w) : wpList Tryd.prog ops Q (o :: rest) a w := by
  refine wpList_plain hg fun K' hK' => ?_
  obtain ⟨n, hrun, h1, h2⟩ := h.len o.type
  unfold Oper.wp
  simp [execOp, hop, resolve, invoke, builtin, hm, hrun, Result.andThen]
  exact hK' _ _ (hK n h1 h2)
theorem list_kput (hg : o.guard = none) (m x v : Operand) (hop : o.op = Op.mapUpdate 55 m x v) (b N : Nat) (K : List UInt8 → Bool) (hm : a.eval m = .map (some b)) (h : KsM w b N K) (hn : N ≤ 100000000) (s : ByteArray) (hx : a.eval x = .string s) (hs : s.size ≤ maxLen) (n : Int) (hv : a.eval v = .int .i64 n) (hw : (Lit.int .i64 n).wf = true)
    (hK : ∀ w', KsM w' b (N + 1) (fun y => decide (y = s.data.toList) || K y) → Chg (fun k => k = b) w w' → wpList Tryd.prog ops Q rest (a.put o.dst undef) w') : wpList Tryd.prog ops Q (o :: rest) a w := by
  obtain ⟨D, h1, hD⟩ := h
  refine wpList_mapUpdate_own (H := Unit) w hg m x v _ hop _ _ keyS Tryd.underlying55 _ b _ D hm h1 (by unfold maxLen; omega) _ _ (kS s.data.toList) hx hv (Go.WideMaps.keyOf_string_mk Tryd.underlying9 hs) (.lit (.int .i64 n)) [] (plainElem_int Tryd.underlying3 hw) fun w' hw' hg' => hK w' ?_ (grown_chg hg' (fun k hk => by injection hk with hk; exact hk.symm))
  exact ⟨_, hw', hD.put (h1.tidy keyS) _ _⟩
theorem list_kdel (hg : o.guard = none) (m x : Operand) (hop : o.op = Op.call { callee := Callee.builtin Builtin.delete, args := #[m, x], argTypes := #[55, 9] }) (b N : Nat) (K : List UInt8 → Bool) (hm : a.eval m = .map (some b)) (h : KsM w b N K) (s : ByteArray) (hx : a.eval x = .string s) (hs : s.size ≤ maxLen)
    (hK : ∀ w', KsM w' b N (fun y => decide (y ≠ s.data.toList) && K y) → Chg (fun k => k = b) w w' → wpList Tryd.prog ops Q rest (a.put o.dst (.tuple #[])) w') : wpList Tryd.prog ops Q (o :: rest) a w := by
  obtain ⟨D, h1, hD⟩ := h
  refine wpList_delete_own w hg m x _ _ hop _ keyS Tryd.underlying55 _ b _ D hm h1 _ (kS s.data.toList) hx (Go.WideMaps.keyOf_string_mk Tryd.underlying9 hs) fun w' hw' ht => hK w' ?_ (grown_chg ht.grown (fun k hk => by injection hk with hk; exact hk.symm))
  exact ⟨_, hw', hD.del _⟩
end
/-- Block b is a set of texts that holds none. -/
def NoneM (w : World) (b : Nat) : Prop := w.ownsMap Tryd.prog 9 (plainElem (H := Unit) Tryd.prog 4) b 0 (.map [])
theorem noneM_made (w : World) : NoneM (w.alloc (.map #[] 0)) w.heap.size := World.ownsMap_made _ _ _ _
theorem NoneM.lt {w : World} {m : Nat} (h : NoneM w m) : m < w.heap.size := World.ownsMap.lt h
theorem NoneM.chg {S : Nat → Prop} {w w' : World} {m : Nat} (h : NoneM w m) (k : Chg S w w') (hb : ¬ S m) : NoneM w' m := by
  have hl := h.lt
  obtain ⟨es, clock, h1, r⟩ := h
  exact ⟨es, clock, by rw [k.block m hl hb]; exact h1, r⟩
theorem plainElem_bool_inv {v : Value} {z : DataW Unit × List MemPlace} (h : plainElem Tryd.prog 4 v = some z) : ∃ x, v = .bool x ∧ z.1 = .lit (.bool x) := by
  have he := Tryd.underlying4
  simp only [plainElem, he] at h
  cases v <;> simp at h
  rename_i x
  exact ⟨x, rfl, by rw [← h]⟩
theorem NoneM.get {w : World} {m : Nat} (h : NoneM w m) {s : ByteArray} (hs : s.size ≤ maxLen) : (Instr.lookup 93 (.map (some m)) (.string s) false).run Tryd.prog w = .ok (.bool false) w := by
  obtain ⟨v, ps, hrun, hv⟩ := World.ownsMap.lookup h keyS Tryd.underlying93 (zeroB w) (zd := .lit (.bool false)) (zp := []) (plainElem_bool Tryd.underlying4 false) (Go.WideMaps.keyOf_string_mk Tryd.underlying9 hs)
  obtain ⟨x, rfl, hx⟩ := plainElem_bool_inv hv
  simp [DataW.atKey] at hx
  subst hx; exact hrun
section
variable {w : World} {ops : Array Oper} {rest : List Oper} {o : Oper} {a : Act} {Q : Exit → Act → World → Prop}
theorem list_bget (hg : o.guard = none) (m x : Operand) (hop : o.op = Op.lookup 93 m x false) (b : Nat) (hm : a.eval m = .map (some b)) (h : NoneM w b) (s : ByteArray) (hx : a.eval x = .string s) (hs : s.size ≤ maxLen)
    (hK : wpList Tryd.prog ops Q rest (a.put o.dst (.bool false)) w) : wpList Tryd.prog ops Q (o :: rest) a w := by
  refine wpList_plain hg fun K' hK' => ?_
  unfold Oper.wp
  simp [execOp, hop, hm, hx, h.get hs, Result.andThen]
  exact hK' _ _ hK
theorem list_bput (hg : o.guard = none) (m x v : Operand) (hop : o.op = Op.mapUpdate 93 m x v) (b : Nat) (hm : a.eval m = .map (some b)) (h : NoneM w b) (s : ByteArray) (hx : a.eval x = .string s) (hs : s.size ≤ maxLen) (hv : a.eval v = .bool true)
    (hK : ∀ w', Chg (fun k => k = b) w w' → wpList Tryd.prog ops Q rest (a.put o.dst undef) w') : wpList Tryd.prog ops Q (o :: rest) a w := by
  exact wpList_mapUpdate_own (H := Unit) w hg m x v _ hop _ _ keyS Tryd.underlying93 _ b _ _ hm h (by unfold maxLen; omega) _ _ (kS s.data.toList) hx hv (Go.WideMaps.keyOf_string_mk Tryd.underlying9 hs) (.lit (.bool true)) [] (plainElem_bool Tryd.underlying4 true) fun w' hw' hg' => hK w' (grown_chg hg' (fun k hk => by injection hk with hk; exact hk.symm))
end
end Go.Proofs.YtpapfnfdaklnlaaDoor
