/- The door's map from keys to things. -/
import Derived.Test.YtdoepjokaekckaaLm
import Derived.Test.YtdoepjokaekckaaBc
namespace Go.Proofs.Ytdoepjokaekckaa
set_option linter.unusedVariables false
open Go.RowKit Go.Maps

/-- A thing: key, bytes, tenant, name. -/
abbrev Tg := Int × Int × ByteArray × Int
def tz : Tg := (0, 0, ByteArray.empty, 0)
def tv (t : Tg) : Value := .agg #[.int .i64 t.1, .int .i64 t.2.1, .string t.2.2.1, .int .u64 t.2.2.2]
def vT (t : Tg) : DataW Unit := .agg [.lit (.int .i64 t.1), .lit (.int .i64 t.2.1), .lit (.string t.2.2.1.data.toList), .lit (.int .u64 t.2.2.2)]
theorem bytes_ext {a b : ByteArray} (h : a.data.toList = b.data.toList) : a = b := by
  cases a with | mk a => cases b with | mk b => simp only at h; rw [Array.toList_inj.1 h]
theorem vT_inj {a b : Tg} (h : vT a = vT b) : a = b := by
  obtain ⟨a1, a2, a3, a4⟩ := a
  obtain ⟨b1, b2, b3, b4⟩ := b
  unfold vT at h
  injection h with h
  injection h with h1 h
  injection h with h2 h
  injection h with h3 h
  injection h with h4 h
  injection h1 with h1
  injection h1 with _ h1
  injection h2 with h2
  injection h2 with _ h2
  injection h3 with h3
  injection h3 with h3
  injection h4 with h4
  injection h4 with _ h4
  simp only at h1 h2 h3 h4
  rw [h1, h2, bytes_ext h3, h4]
def asI (k : IntKind) : Value → Option Int
  | .int j n => if j = k then some n else none
  | _ => none
def asS : Value → Option ByteArray
  | .string s => some s
  | _ => none
theorem asI_inv {k : IntKind} {v : Value} {n : Int} (h : asI k v = some n) : v = .int k n := by
  cases v <;> simp [asI] at h
  obtain ⟨rfl, rfl⟩ := h
  rfl
theorem asS_inv {v : Value} {s : ByteArray} (h : asS v = some s) : v = .string s := by
  cases v <;> simp [asS] at h
  rw [h]
def tgL : List Value → Option Tg
  | [a, b, c, d] => (asI .i64 a).bind fun x => (asI .i64 b).bind fun y => (asS c).bind fun s => (asI .u64 d).bind fun n => some (x, y, s, n)
  | _ => none
theorem tgL_inv {l : List Value} {t : Tg} (h : tgL l = some t) : l = [.int .i64 t.1, .int .i64 t.2.1, .string t.2.2.1, .int .u64 t.2.2.2] := by
  match l, h with
  | [a, b, c, d], h =>
    simp only [tgL, Option.bind_eq_some_iff] at h
    obtain ⟨x, h1, y, h2, s, h3, n, h4, h5⟩ := h
    injection h5 with h5
    subst h5
    rw [asI_inv h1, asI_inv h2, asS_inv h3, asI_inv h4]
def tgE (v : Value) : Option (DataW Unit × List MemPlace) :=
  match v with
  | .agg cs => (tgL cs.toList).map fun t => (vT t, [])
  | _ => none
theorem tgE_mk (t : Tg) : tgE (tv t) = some (vT t, []) := by simp [tgE, tv, tgL, asI, asS]
theorem tgE_inv {v : Value} {z : DataW Unit × List MemPlace} (h : tgE v = some z) : ∃ t, v = tv t ∧ z = (vT t, []) := by
  cases v with
  | agg cs =>
    simp only [tgE, Option.map_eq_some_iff] at h
    obtain ⟨t, h1, h2⟩ := h
    have h3 := tgL_inv h1
    have h4 : cs = #[.int .i64 t.1, .int .i64 t.2.1, .string t.2.2.1, .int .u64 t.2.2.2] := Array.toList_inj.1 h3
    exact ⟨t, by rw [h4]; rfl, h2.symm⟩
  | _ => simp [tgE] at h
theorem zeroT (w : World) : (zeroValue 40).run Try.prog w = .ok (tv tz) w := by kernel_rfl
structure TgD (D : DataW Unit) (M : Int → Option Tg) : Prop where
  at_ : ∀ x, D.atKey (kL x) (vT tz) = vT ((M x).getD tz)
  has : ∀ x, Maps.has D (kL x) = (M x).isSome
theorem tgD_empty : TgD (.map []) (fun _ => none) := ⟨fun x => by simp [DataW.atKey], fun x => by simp [Maps.has]⟩
theorem TgD.put {D : DataW Unit} {M : Int → Option Tg} (h : TgD D M) (t : Tidy D) (x : Int) (p : Tg) : TgD (D.put (kL x) (vT p)) (fun y => if y = x then some p else M y) := by
  refine ⟨fun y => ?_, fun y => ?_⟩
  · by_cases e : y = x
    · subst e
      rw [atKey_put_same t.isMap (kL_key y), if_pos rfl]; rfl
    · rw [atKey_put_other (kL_ne e), h.at_, if_neg e]
  · by_cases e : y = x
    · subst e
      rw [has_put_same t.isMap (kL_key y), if_pos rfl]; rfl
    · rw [has_put_other (kL_ne e), h.has, if_neg e]
theorem TgD.del {D : DataW Unit} {M : Int → Option Tg} (h : TgD D M) (x : Int) : TgD (D.del (kL x)) (fun y => if y = x then none else M y) := by
  refine ⟨fun y => ?_, fun y => ?_⟩
  · by_cases e : y = x
    · subst e
      rw [atKey_del_same, if_pos rfl]; rfl
    · rw [atKey_del_other (kL_ne e), h.at_, if_neg e]
  · by_cases e : y = x
    · subst e
      rw [has_del_same, if_pos rfl]; rfl
    · rw [has_del_other (kL_ne e), h.has, if_neg e]
/-- Block m is a map that tells M. -/
def TgM (w : World) (m N : Nat) (M : Int → Option Tg) : Prop := ∃ D : DataW Unit, w.ownsMap Try.prog 2 tgE m N D ∧ TgD D M
section
variable {w w' : World} {m N : Nat} {M : Int → Option Tg}
theorem TgM.block (h : TgM w m N M) (e : w'.heap[m]? = w.heap[m]?) : TgM w' m N M := by
  obtain ⟨D, ⟨es, clock, hb, r⟩, hD⟩ := h
  exact ⟨D, ⟨es, clock, by rw [e]; exact hb, r⟩, hD⟩
theorem TgM.lt (h : TgM w m N M) : m < w.heap.size := by obtain ⟨D, h1, _⟩ := h; exact h1.lt
theorem TgM.chg {S : Nat → Prop} (h : TgM w m N M) (k : Chg S w w') (hb : ¬ S m) : TgM w' m N M := h.block (k.block m h.lt hb)
theorem TgM.mono (h : TgM w m N M) {N' : Nat} (hn : N ≤ N') : TgM w m N' M := by obtain ⟨D, h1, h2⟩ := h; exact ⟨D, h1.mono hn, h2⟩
theorem TgM.congr (h : TgM w m N M) {M' : Int → Option Tg} (e : ∀ x, M x = M' x) : TgM w m N M' := by
  have : M = M' := funext e
  rw [← this]; exact h
theorem TgM.cell (h : TgM w m N M) {o : Nat} {v : Value} {b : Nat} (hc : w.cell? ⟨b, o, none⟩ = some v) : m ≠ b := by
  rintro rfl
  obtain ⟨D, ⟨es, clock, hb, r⟩, hD⟩ := h
  simp [World.cell?, hb] at hc
theorem tgM_made (w : World) : TgM (w.alloc (.map #[] 0)) w.heap.size 0 (fun _ => none) := ⟨_, World.ownsMap_made _ _ _ _, tgD_empty⟩
theorem TgM.get (h : TgM w m N M) {x : Int} (hx : (Lit.int .i64 x).wf = true) : (Instr.lookup 68 (.map (some m)) (.int .i64 x) false).run Try.prog w = .ok (tv ((M x).getD tz)) w := by
  obtain ⟨D, h1, hD⟩ := h
  obtain ⟨u, ps, hrun, hv⟩ := h1.lookup keyL Try.underlying68 (zeroT w) (tgE_mk tz) (keyOf_int_mk Try.underlying2 hx)
  obtain ⟨t, rfl, hy⟩ := tgE_inv hv
  have h2 : D.atKey (kL x) (vT tz) = vT t := congrArg Prod.fst hy
  rw [hD.at_] at h2
  rw [vT_inj h2]; exact hrun
theorem TgM.look (h : TgM w m N M) {x : Int} (hx : (Lit.int .i64 x).wf = true) : (Instr.lookup 68 (.map (some m)) (.int .i64 x) true).run Try.prog w = .ok (.tuple #[tv ((M x).getD tz), .bool (M x).isSome]) w := by
  obtain ⟨D, h1, hD⟩ := h
  obtain ⟨u, ps, hrun, hv⟩ := h1.look_ok keyL Try.underlying68 (zeroT w) (tgE_mk tz) (keyOf_int_mk Try.underlying2 hx)
  obtain ⟨t, rfl, hy⟩ := tgE_inv hv
  have h2 : D.atKey (kL x) (vT tz) = vT t := congrArg Prod.fst hy
  rw [hD.at_] at h2
  have h4 : Maps.has D (kL x) = (M x).isSome := hD.has x
  rw [vT_inj h2, ← h4]; exact hrun
end
section
variable {w : World} {ops : Array Oper} {rest : List Oper} {o : Oper} {a : Act} {Q : Exit → Act → World → Prop}
theorem list_tget (hg : o.guard = none) (m x : Operand) (hop : o.op = Op.lookup 68 m x false) (b N : Nat) (M : Int → Option Tg) (hm : a.eval m = .map (some b)) (h : TgM w b N M) (y : Int) (hx : a.eval x = .int .i64 y) (hw : (Lit.int .i64 y).wf = true)
    (hK : wpList Try.prog ops Q rest (a.put o.dst (tv ((M y).getD tz))) w) : wpList Try.prog ops Q (o :: rest) a w := by
  refine wpList_plain hg fun K' hK' => ?_
  unfold Oper.wp
  simp [execOp, hop, hm, hx, h.get hw, Result.andThen]
  exact hK' _ _ hK
theorem list_tlook (hg : o.guard = none) (m x : Operand) (hop : o.op = Op.lookup 68 m x true) (b N : Nat) (M : Int → Option Tg) (hm : a.eval m = .map (some b)) (h : TgM w b N M) (y : Int) (hx : a.eval x = .int .i64 y) (hw : (Lit.int .i64 y).wf = true)
    (hK : wpList Try.prog ops Q rest (a.put o.dst (.tuple #[tv ((M y).getD tz), .bool (M y).isSome])) w) : wpList Try.prog ops Q (o :: rest) a w := by
  refine wpList_plain hg fun K' hK' => ?_
  unfold Oper.wp
  simp [execOp, hop, hm, hx, h.look hw, Result.andThen]
  exact hK' _ _ hK
theorem list_tput (hg : o.guard = none) (m x v : Operand) (hop : o.op = Op.mapUpdate 68 m x v) (b N : Nat) (M : Int → Option Tg) (hm : a.eval m = .map (some b)) (h : TgM w b N M) (hn : N ≤ 100000000) (y : Int) (hx : a.eval x = .int .i64 y) (t : Tg) (hv : a.eval v = tv t) (hw : (Lit.int .i64 y).wf = true)
    (hK : ∀ w', TgM w' b (N + 1) (fun z => if z = y then some t else M z) → Chg (fun k => k = b) w w' → wpList Try.prog ops Q rest (a.put o.dst undef) w') : wpList Try.prog ops Q (o :: rest) a w := by
  obtain ⟨D, h1, hD⟩ := h
  refine wpList_mapUpdate_own (H := Unit) w hg m x v _ hop _ _ keyL Try.underlying68 _ b _ D hm h1 (by unfold maxLen; omega) _ _ (kL y) hx hv (keyOf_int_mk Try.underlying2 hw) (vT t) [] (tgE_mk t) fun w' hw' hg' => hK w' ?_ (grown_chg hg' (fun k hk => by injection hk with hk; exact hk.symm))
  exact ⟨_, hw', hD.put (h1.tidy keyL) y t⟩
theorem list_tdel (hg : o.guard = none) (m x : Operand) (hop : o.op = Op.call { callee := Callee.builtin Builtin.delete, args := #[m, x], argTypes := #[68, 2] }) (b N : Nat) (M : Int → Option Tg) (hm : a.eval m = .map (some b)) (h : TgM w b N M) (y : Int) (hx : a.eval x = .int .i64 y) (hw : (Lit.int .i64 y).wf = true)
    (hK : ∀ w', TgM w' b N (fun z => if z = y then none else M z) → Chg (fun k => k = b) w w' → wpList Try.prog ops Q rest (a.put o.dst (.tuple #[])) w') : wpList Try.prog ops Q (o :: rest) a w := by
  obtain ⟨D, h1, hD⟩ := h
  refine wpList_delete_own w hg m x _ _ hop _ keyL Try.underlying68 _ b _ D hm h1 _ (kL y) hx (keyOf_int_mk Try.underlying2 hw) fun w' hw' ht => hK w' ?_ (grown_chg ht.grown (fun k hk => by injection hk with hk; exact hk.symm))
  exact ⟨_, hw', hD.del y⟩
end
end Go.Proofs.Ytdoepjokaekckaa
