/- A set of keys as a map of the call's own; who goes for a thing, plain. -/
import Derived.Test.YtdoepjokaekckaaBg
import Derived.Maps.OwnSet
namespace Go.Proofs.Ytdoepjokaekckaa
set_option linter.unusedVariables false
open Go.RowKit Go.Maps

theorem zeroB (w : World) : (zeroValue 4).run Try.prog w = .ok (.bool false) w := by kernel_rfl
def vB (b : Bool) : DataW Unit := .lit (.bool b)
set_option maxRecDepth 8000 in
theorem plainElem_bool_inv {v : Value} {z : DataW Unit × List MemPlace} (h : plainElem Try.prog 4 v = some z) : ∃ x, v = .bool x ∧ z.1 = vB x := by
  have he := Try.underlying4
  unfold plainElem at h
  rw [he] at h
  cases v <;> simp at h
  rename_i x
  exact ⟨x, rfl, by rw [← h]; rfl⟩
/-- Block b is a map that holds just these keys. -/
def SyM (w : World) (b N : Nat) (Y : Int → Bool) : Prop := ∃ D : DataW Unit, w.ownsMap Try.prog 2 (plainElem Try.prog 4) b N D ∧ ∀ x, D.atKey (kL x) (vB false) = vB (Y x)
section
variable {w w' : World} {b N : Nat} {Y : Int → Bool}
theorem SyM.block (h : SyM w b N Y) (e : w'.heap[b]? = w.heap[b]?) : SyM w' b N Y := by
  obtain ⟨D, ⟨es, clock, hb, r⟩, hD⟩ := h
  exact ⟨D, ⟨es, clock, by rw [e]; exact hb, r⟩, hD⟩
theorem SyM.lt (h : SyM w b N Y) : b < w.heap.size := by obtain ⟨D, h1, _⟩ := h; exact h1.lt
theorem SyM.chg {S : Nat → Prop} (h : SyM w b N Y) (k : Chg S w w') (hb : ¬ S b) : SyM w' b N Y := h.block (k.block b h.lt hb)
theorem SyM.mono (h : SyM w b N Y) {N' : Nat} (hn : N ≤ N') : SyM w b N' Y := by obtain ⟨D, h1, h2⟩ := h; exact ⟨D, h1.mono hn, h2⟩
theorem SyM.congr (h : SyM w b N Y) {Z : Int → Bool} (e : ∀ x, Y x = Z x) : SyM w b N Z := by
  have : Y = Z := funext e
  rw [← this]; exact h
theorem syM_made (w : World) : SyM (w.alloc (.map #[] 0)) w.heap.size 0 (fun _ => false) := ⟨_, World.ownsMap_made _ _ _ _, fun x => by simp [DataW.atKey]⟩
set_option maxRecDepth 8000 in
theorem SyM.get (h : SyM w b N Y) {x : Int} (hx : (Lit.int .i64 x).wf = true) : (Instr.lookup 112 (.map (some b)) (.int .i64 x) false).run Try.prog w = .ok (.bool (Y x)) w := by
  obtain ⟨D, h1, hD⟩ := h
  obtain ⟨v, ps, hrun, hv⟩ := h1.lookup keyL Try.underlying112 (zeroB w) (plainElem_bool Try.underlying4 false) (keyOf_int_mk Try.underlying2 hx)
  obtain ⟨y, rfl, hy⟩ := plainElem_bool_inv hv
  have h2 : D.atKey (kL x) (vB false) = vB y := hy
  rw [hD] at h2
  have h3 : Y x = y := by unfold vB at h2; injection h2 with h2; injection h2
  rw [h3]; exact hrun
end
section
variable {w : World} {ops : Array Oper} {rest : List Oper} {o : Oper} {a : Act} {Q : Exit → Act → World → Prop}
set_option maxRecDepth 8000 in
theorem list_yput (hg : o.guard = none) (m x v : Operand) (hop : o.op = Op.mapUpdate 112 m x v) (b N : Nat) (Y : Int → Bool) (hm : a.eval m = .map (some b)) (h : SyM w b N Y) (hn : N ≤ 4611686018427387904) (y : Int) (hx : a.eval x = .int .i64 y) (hv : a.eval v = .bool true) (hw : (Lit.int .i64 y).wf = true)
    (hK : ∀ w', SyM w' b (N + 1) (fun z => if z = y then true else Y z) → Chg (fun k => k = b) w w' → wpList Try.prog ops Q rest (a.put o.dst undef) w') : wpList Try.prog ops Q (o :: rest) a w := by
  obtain ⟨D, h1, hD⟩ := h
  refine wpList_mapUpdate_own (H := Unit) w hg m x v _ hop _ _ keyL Try.underlying112 _ b _ D hm h1 (by unfold maxLen; omega) _ _ (kL y) hx hv (keyOf_int_mk Try.underlying2 hw) (vB true) [] (plainElem_bool Try.underlying4 true) fun w' hw' hg' => hK w' ?_ (grown_chg hg' (fun k hk => by injection hk with hk; exact hk.symm))
  refine ⟨_, hw', fun z => ?_⟩
  by_cases e : z = y
  · subst e
    rw [atKey_put_same (h1.tidy keyL).isMap (kL_key z)]
    simp
  · rw [atKey_put_other (kL_ne e), hD]
    simp [e]
theorem list_yget (hg : o.guard = none) (m x : Operand) (hop : o.op = Op.lookup 112 m x false) (b N : Nat) (Y : Int → Bool) (hm : a.eval m = .map (some b)) (h : SyM w b N Y) (y : Int) (hx : a.eval x = .int .i64 y) (hw : (Lit.int .i64 y).wf = true)
    (hK : wpList Try.prog ops Q rest (a.put o.dst (.bool (Y y))) w) : wpList Try.prog ops Q (o :: rest) a w := by
  refine wpList_plain hg fun K' hK' => ?_
  unfold Oper.wp
  simp [execOp, hop, hm, hx, h.get hw, Result.andThen]
  exact hK' _ _ hK
end

/-- What a pass leaves: the tenant's bytes, all bytes, who stays, who goes. -/
structure Ps where
  own : Int
  al : Int
  Y : Int → Bool
  G : List Tg
/-- The first pass: the tenant's own things, until it is within its share. -/
def p1 (share n : Int) (s : ByteArray) : List Tg → Ps → Ps
  | [], p => p
  | x :: X, p => if p.own + n ≤ share then p else if x.2.2.1 = s ∧ p.Y x.1 = false then p1 share n s X ⟨p.own - x.2.1, p.al - x.2.1, fun z => if z = x.1 then true else p.Y z, p.G ++ [x]⟩ else p1 share n s X p
/-- The second: any. -/
def p2 (room n : Int) : List Tg → Ps → Ps
  | [], p => p
  | x :: X, p => if p.al + n ≤ room then p else if p.Y x.1 = false then p2 room n X ⟨p.own, p.al - x.2.1, p.Y, p.G ++ [x]⟩ else p2 room n X p
def roomP (room share : Int) (X : List Tg) (n : Int) (s : ByteArray) (hs : List Int) : Ps := p2 room n X (p1 share n s X ⟨ofX X s.data.toList, sumX X, fun z => decide (z ∈ hs), []⟩)
def roomB (room share n : Int) (p : Ps) : Bool := decide (p.own + n ≤ share) && decide (p.al + n ≤ room)
end Go.Proofs.Ytdoepjokaekckaa
