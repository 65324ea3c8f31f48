/- append to a slice that is full, or to one of the call's own, of whatever slice: nothing to append, too. -/
import Derived.Test.YtpapfnfdaklnlaaDoorOwn
import Derived.ArgAppend
import Derived.Deep.AppendSrc
import Derived.Deep.Upon
namespace Go.Proofs.YtpapfnfdaklnlaaDoor
set_option linter.unusedVariables false
open Go.RowKit

/-- A slice's elements can be read. -/
structure RdS (w : World) (sz : Nat) (a : Option Addr) (n cap : Nat) (xs : List Value) : Prop where
  len : xs.length = n * sz
  le : n ≤ cap ∧ cap ≤ maxLen
  nil : a = none → n = 0 ∧ cap = 0
  one : ∀ u ∈ xs, u.oneCell' = true
  cells : ∀ j u, xs[j]? = some u → ∃ g o, a = some ⟨g, o, none⟩ ∧ w.cell? ⟨g, o + j, none⟩ = some u
  adr : ∀ x, a = some x → ∃ g o, x = ⟨g, o, none⟩

section
variable {P : Program} {w w' : World} {sz n m cap cx : Nat} {a ax : Option Addr} {xs news : List Value}
theorem RdS.block {S : Nat → Prop} (h : RdS w sz a n cap xs) (c : Chg S w w') (hn : ∀ g, (Value.slice a n cap).ownBlock = some g → ¬ S g) : RdS w' sz a n cap xs :=
  ⟨h.len, h.le, h.nil, h.one, fun j u hj => by
    obtain ⟨g, o, rfl, hc⟩ := h.cells j u hj
    exact ⟨g, o, rfl, by rw [c.cell (cell_lt hc) (hn g rfl)]; exact hc⟩, h.adr⟩
theorem RdS.at (h : RdS w sz a n cap xs) {x : Addr} (ha : a = some x) : ∀ j u, xs[j]? = some u → w.cell? (x.add j) = some u := fun j u hj => by
  obtain ⟨g, o, e, hc⟩ := h.cells j u hj
  rw [ha] at e
  have := Option.some.inj e
  subst this
  rw [Addr.add_lit]
  exact hc
theorem RdS.own {B : Nat} {e : TypeId} {v : Value} (h : w.ownsRow B e sz v n xs) (h1 : ∀ u ∈ xs, u.oneCell' = true) : ∃ a cap, v = .slice a n cap ∧ RdS w sz a n cap xs := by
  obtain ⟨a, cap, rfl, h2, h3, h4⟩ := own_form h
  refine ⟨a, cap, rfl, h.1, ⟨h2, h3⟩, fun e => ?_, h1, fun j u hj => ?_, fun x hx => ?_⟩
  · subst e
    rcases h.2 with ⟨h5, _⟩ | ⟨g, cap', cur, h5, _⟩
    · injection h5 with _ h6 h7; exact ⟨h6, h7⟩
    · cases h5
  · obtain ⟨g, rfl, _, _, hc, _⟩ := h4 j u hj
    exact ⟨g, 0, rfl, by rw [Nat.zero_add]; exact hc⟩
  · rcases h.2 with ⟨h5, _⟩ | ⟨g, cap', cur, h5, _⟩
    · injection h5 with h5; subst h5; cases ‹none = some _›
    · injection h5 with h5; subst h5; rename_i hx; injection hx with hx; exact ⟨g, 0, hx.symm⟩
theorem RdS.src {t e : TypeId} (ht : P.underlying t = some (.slice e)) (h : RdS w sz ax m cx news) : Src P sz t (.slice ax m cx) m news w := by
  cases ax with
  | none =>
    obtain ⟨rfl, rfl⟩ := h.nil rfl
    have : news = [] := List.eq_nil_of_length_eq_zero (by have := h.len; simpa using this)
    subst this
    exact Src.ofNil w ht 0
  | some x => exact Src.ofSlice w ht x m cx news h.len (h.at rfl) h.one

theorem run_full (t ty e : TypeId) (i : TypeInfo) (z : Value) (size bytes : Nat) (ht : P.underlying t = some (.slice e)) (hi : P.info? e = some i) (hz : i.zero = some z)
    (hsize : i.size = size) (hby : i.bytes = bytes) (hzs : z.cells.size = size) (hsz : 0 < size) (hs : RdS w size a n n xs) (hx : RdS w size ax m cx news) (h63 : n + m ≤ maxLen) (hbytes : (n + m) * bytes ≤ 140737488355328) :
    ∃ a' c' w', (Builtin.append_ #[t, t] ty #[.slice a n n, .slice ax m cx]).run P w = .ok (.slice a' (n + m) c') w' ∧ RdS w' size a' (n + m) c' (xs ++ news) ∧ w.grownBy w' none ∧
      (∀ g, (Value.slice a' (n + m) c').ownBlock = some g → (Value.slice a n n).ownBlock = some g ∨ w.heap.size ≤ g ∧ g < w'.heap.size) := by
  by_cases hm : m = 0
  · subst hm
    have hn : news = [] := List.eq_nil_of_length_eq_zero (by have := hx.len; simpa using this)
    subst hn
    subst hsize
    refine ⟨a, n, w, run_append_nothing (P := P) w t t ty e i ht hi a n n (Nat.le_refl _) _ (hx.src ht), by simpa using hs, World.grownBy.refl _ _, fun g hg => .inl ?_⟩
    exact hg
  · have hxs : ∃ x, ax = some x := by
      cases ax with
      | none => exact absurd (hx.nil rfl).1 hm
      | some x => exact ⟨x, rfl⟩
    obtain ⟨x, rfl⟩ := hxs
    have h1 : ∀ u ∈ xs ++ news, u.oneCell' = true := fun u hu => by
      rcases List.mem_append.1 hu with h | h
      · exact hs.one u h
      · exact hx.one u h
    have fin : ∀ v' w', (Builtin.append_ #[t, t] ty #[.slice a n n, .slice (some x) m cx]).run P w = .ok v' w' → w'.ownsRow w.heap.size e size v' (n + m) (xs ++ news) → w.grownBy w' none → ∃ a' c' w', (Builtin.append_ #[t, t] ty #[.slice a n n, .slice (some x) m cx]).run P w = .ok (.slice a' (n + m) c') w' ∧ RdS w' size a' (n + m) c' (xs ++ news) ∧ w.grownBy w' none ∧
      (∀ g, (Value.slice a' (n + m) c').ownBlock = some g → (Value.slice a n n).ownBlock = some g ∨ w.heap.size ≤ g ∧ g < w'.heap.size) := by
      intro v' w' hr ho hg
      obtain ⟨a', c', rfl, hrd⟩ := RdS.own ho h1
      exact ⟨a', c', w', hr, hrd, hg, fun g hb => .inr (own_below ho hb)⟩
    cases a with
    | none =>
      obtain ⟨rfl, _⟩ := hs.nil rfl
      have hxn : xs = [] := List.eq_nil_of_length_eq_zero (by have := hs.len; simpa using this)
      subst hxn
      obtain ⟨v', w', hr, ho, hg, _⟩ := run_append_own (P := P) w w.heap.size t ty e i z size bytes ht hi hz hsize hby hzs hsz (.slice none 0 0) 0 [] (World.ownsRow_nil w _ e size) x m cx news hx.len (hx.at rfl) hx.one h63 hbytes (Nat.le_refl _)
      exact fin v' w' hr ho hg
    | some b =>
      obtain ⟨v', w', hr, ho, hg⟩ := run_append_arg_grows (P := P) w t ty e i z size bytes ht hi hz hsize hby hzs hsz b n n xs hs.len (hs.at rfl) x m cx news hx.len (hx.at rfl) (by omega) h63 hbytes
      exact fin v' w' hr ho hg

theorem run_owned (t ty : TypeId) (B : Nat) (e : TypeId) (i : TypeInfo) (z : Value) (size bytes : Nat) (ht : P.underlying t = some (.slice e)) (hi : P.info? e = some i) (hz : i.zero = some z)
    (hsize : i.size = size) (hby : i.bytes = bytes) (hzs : z.cells.size = size) (hsz : 0 < size) (hs : w.ownsRow B e size (.slice a n cap) n xs) (h1 : ∀ u ∈ xs, u.oneCell' = true) (hx : RdS w size ax m cx news) (h63 : n + m ≤ maxLen) (hbytes : (n + m) * bytes ≤ 140737488355328) (hb : B ≤ w.heap.size) :
    ∃ a' c' w', (Builtin.append_ #[t, t] ty #[.slice a n cap, .slice ax m cx]).run P w = .ok (.slice a' (n + m) c') w' ∧ w'.ownsRow B e size (.slice a' (n + m) c') (n + m) (xs ++ news) ∧ w.grownBy w' (Value.slice a n cap).ownBlock ∧ (∀ u ∈ xs ++ news, u.oneCell' = true) := by
  have h2 : ∀ u ∈ xs ++ news, u.oneCell' = true := fun u hu => by
    rcases List.mem_append.1 hu with h | h
    · exact h1 u h
    · exact hx.one u h
  by_cases hm : m = 0
  · subst hm
    have hn : news = [] := List.eq_nil_of_length_eq_zero (by have := hx.len; simpa using this)
    subst hn
    subst hsize
    have hle : n ≤ cap := by
      obtain ⟨a0, c0, e0, h3, _⟩ := own_form hs
      injection e0 with _ _ e1
      omega
    exact ⟨a, cap, w, run_append_nothing (P := P) w t t ty e i ht hi a n cap hle _ (hx.src ht), by simpa using hs, World.grownBy.refl _ _, h2⟩
  · have hxs : ∃ x, ax = some x := by
      cases ax with
      | none => exact absurd (hx.nil rfl).1 hm
      | some x => exact ⟨x, rfl⟩
    obtain ⟨x, rfl⟩ := hxs
    obtain ⟨v', w', hr, ho, hg, _⟩ := run_append_own (P := P) w B t ty e i z size bytes ht hi hz hsize hby hzs hsz (.slice a n cap) n xs hs x m cx news hx.len (hx.at rfl) hx.one h63 hbytes hb
    obtain ⟨a', c', rfl, _⟩ := own_form ho
    exact ⟨a', c', w', hr, ho, hg, h2⟩

variable {ops : Array Oper} {o : Oper} {act : Act} {K : Act → World → Prop} {Q : Exit → Act → World → Prop} {E : Prop} {rest : List Oper}
theorem wp_full (s x : Operand) (t : TypeId) (ho : o.op = .call { callee := .builtin .append, args := #[s, x], argTypes := #[t, t] }) (e : TypeId) (i : TypeInfo) (z : Value) (size bytes : Nat) (ht : P.underlying t = some (.slice e)) (hi : P.info? e = some i) (hz : i.zero = some z)
    (hsize : i.size = size) (hby : i.bytes = bytes) (hzs : z.cells.size = size) (hsz : 0 < size) (hs : act.eval s = .slice a n n) (hx : act.eval x = .slice ax m cx) (rs : RdS w size a n n xs) (rx : RdS w size ax m cx news) (h63 : n + m ≤ maxLen) (hbytes : (n + m) * bytes ≤ 140737488355328)
    (h : ∀ a' c' w', RdS w' size a' (n + m) c' (xs ++ news) → w.grownBy w' none → (∀ g, (Value.slice a' (n + m) c').ownBlock = some g → (Value.slice a n n).ownBlock = some g ∨ w.heap.size ≤ g ∧ g < w'.heap.size) → K (act.put o.dst (.slice a' (n + m) c')) w') : Oper.wp P o act w K Q := by
  obtain ⟨a', c', w', hrun, h1, h2, h3⟩ := run_full (P := P) t o.type e i z size bytes ht hi hz hsize hby hzs hsz rs rx h63 hbytes
  unfold Oper.wp
  simp [execOp, ho, resolve, invoke, builtin, hs, hx, hrun, Result.andThen]
  exact h a' c' w' h1 h2 h3
theorem wp_owned (s x : Operand) (t : TypeId) (ho : o.op = .call { callee := .builtin .append, args := #[s, x], argTypes := #[t, t] }) (B : Nat) (e : TypeId) (i : TypeInfo) (z : Value) (size bytes : Nat) (ht : P.underlying t = some (.slice e)) (hi : P.info? e = some i) (hz : i.zero = some z)
    (hsize : i.size = size) (hby : i.bytes = bytes) (hzs : z.cells.size = size) (hsz : 0 < size) (hs : act.eval s = .slice a n cap) (hx : act.eval x = .slice ax m cx) (rs : w.ownsRow B e size (.slice a n cap) n xs) (h1 : ∀ u ∈ xs, u.oneCell' = true) (rx : RdS w size ax m cx news) (h63 : n + m ≤ maxLen) (hbytes : (n + m) * bytes ≤ 140737488355328) (hb : B ≤ w.heap.size)
    (h : ∀ a' c' w', w'.ownsRow B e size (.slice a' (n + m) c') (n + m) (xs ++ news) → w.grownBy w' (Value.slice a n cap).ownBlock → (∀ u ∈ xs ++ news, u.oneCell' = true) → K (act.put o.dst (.slice a' (n + m) c')) w') : Oper.wp P o act w K Q := by
  obtain ⟨a', c', w', hrun, h1, h2, h3⟩ := run_owned (P := P) t o.type B e i z size bytes ht hi hz hsize hby hzs hsz rs h1 rx h63 hbytes hb
  unfold Oper.wp
  simp [execOp, ho, resolve, invoke, builtin, hs, hx, hrun, Result.andThen]
  exact h a' c' w' h1 h2 h3
/-- At a plain region's list. -/
theorem list_full (hgd : o.guard = none) (s x : Operand) (t : TypeId) (ho : o.op = .call { callee := .builtin .append, args := #[s, x], argTypes := #[t, t] }) (e : TypeId) (i : TypeInfo) (z : Value) (size bytes : Nat) (ht : P.underlying t = some (.slice e)) (hi : P.info? e = some i) (hz : i.zero = some z)
    (hsize : i.size = size) (hby : i.bytes = bytes) (hzs : z.cells.size = size) (hsz : 0 < size) (hs : act.eval s = .slice a n n) (hx : act.eval x = .slice ax m cx) (rs : RdS w size a n n xs) (rx : RdS w size ax m cx news) (h63 : n + m ≤ maxLen) (hbytes : (n + m) * bytes ≤ 140737488355328)
    (h : ∀ a' c' w', RdS w' size a' (n + m) c' (xs ++ news) → w.grownBy w' none → (∀ g, (Value.slice a' (n + m) c').ownBlock = some g → (Value.slice a n n).ownBlock = some g ∨ w.heap.size ≤ g ∧ g < w'.heap.size) → wpList P ops Q rest (act.put o.dst (.slice a' (n + m) c')) w') : wpList P ops Q (o :: rest) act w :=
  wpList_plain hgd fun _ hK => wp_full s x t ho e i z size bytes ht hi hz hsize hby hzs hsz hs hx rs rx h63 hbytes fun a' c' w' h1 h2 h3 => hK _ _ (h a' c' w' h1 h2 h3)
theorem list_owned (hgd : o.guard = none) (s x : Operand) (t : TypeId) (ho : o.op = .call { callee := .builtin .append, args := #[s, x], argTypes := #[t, t] }) (B : Nat) (e : TypeId) (i : TypeInfo) (z : Value) (size bytes : Nat) (ht : P.underlying t = some (.slice e)) (hi : P.info? e = some i) (hz : i.zero = some z)
    (hsize : i.size = size) (hby : i.bytes = bytes) (hzs : z.cells.size = size) (hsz : 0 < size) (hs : act.eval s = .slice a n cap) (hx : act.eval x = .slice ax m cx) (rs : w.ownsRow B e size (.slice a n cap) n xs) (h1 : ∀ u ∈ xs, u.oneCell' = true) (rx : RdS w size ax m cx news) (h63 : n + m ≤ maxLen) (hbytes : (n + m) * bytes ≤ 140737488355328) (hb : B ≤ w.heap.size)
    (h : ∀ a' c' w', w'.ownsRow B e size (.slice a' (n + m) c') (n + m) (xs ++ news) → w.grownBy w' (Value.slice a n cap).ownBlock → (∀ u ∈ xs ++ news, u.oneCell' = true) → wpList P ops Q rest (act.put o.dst (.slice a' (n + m) c')) w') : wpList P ops Q (o :: rest) act w :=
  wpList_plain hgd fun _ hK => wp_owned s x t ho B e i z size bytes ht hi hz hsize hby hzs hsz hs hx rs h1 rx h63 hbytes hb fun a' c' w' h1 h2 h3 => hK _ _ (h a' c' w' h1 h2 h3)
/-- At a step of a region that draws its order. -/
theorem step_full (hgd : o.guard = none) (s x : Operand) (t : TypeId) (ho : o.op = .call { callee := .builtin .append, args := #[s, x], argTypes := #[t, t] }) (e : TypeId) (i : TypeInfo) (z : Value) (size bytes : Nat) (ht : P.underlying t = some (.slice e)) (hi : P.info? e = some i) (hz : i.zero = some z)
    (hsize : i.size = size) (hby : i.bytes = bytes) (hzs : z.cells.size = size) (hsz : 0 < size) (hs : act.eval s = .slice a n n) (hx : act.eval x = .slice ax m cx) (rs : RdS w size a n n xs) (rx : RdS w size ax m cx news) (h63 : n + m ≤ maxLen) (hbytes : (n + m) * bytes ≤ 140737488355328)
    (h : ∀ a' c' w', RdS w' size a' (n + m) c' (xs ++ news) → w.grownBy w' none → (∀ g, (Value.slice a' (n + m) c').ownBlock = some g → (Value.slice a n n).ownBlock = some g ∨ w.heap.size ≤ g ∧ g < w'.heap.size) → K (act.put o.dst (.slice a' (n + m) c')) w') :
    if Region.wanted o (yielded ops act.tmps) = true then Oper.wp P o act w K Q else E := by
  have hw : Region.wanted o (yielded ops act.tmps) = true := by simp [Region.wanted, hgd]
  rw [if_pos hw]
  exact wp_full s x t ho e i z size bytes ht hi hz hsize hby hzs hsz hs hx rs rx h63 hbytes h
theorem step_owned (hgd : o.guard = none) (s x : Operand) (t : TypeId) (ho : o.op = .call { callee := .builtin .append, args := #[s, x], argTypes := #[t, t] }) (B : Nat) (e : TypeId) (i : TypeInfo) (z : Value) (size bytes : Nat) (ht : P.underlying t = some (.slice e)) (hi : P.info? e = some i) (hz : i.zero = some z)
    (hsize : i.size = size) (hby : i.bytes = bytes) (hzs : z.cells.size = size) (hsz : 0 < size) (hs : act.eval s = .slice a n cap) (hx : act.eval x = .slice ax m cx) (rs : w.ownsRow B e size (.slice a n cap) n xs) (h1 : ∀ u ∈ xs, u.oneCell' = true) (rx : RdS w size ax m cx news) (h63 : n + m ≤ maxLen) (hbytes : (n + m) * bytes ≤ 140737488355328) (hb : B ≤ w.heap.size)
    (h : ∀ a' c' w', w'.ownsRow B e size (.slice a' (n + m) c') (n + m) (xs ++ news) → w.grownBy w' (Value.slice a n cap).ownBlock → (∀ u ∈ xs ++ news, u.oneCell' = true) → K (act.put o.dst (.slice a' (n + m) c')) w') :
    if Region.wanted o (yielded ops act.tmps) = true then Oper.wp P o act w K Q else E := by
  have hw : Region.wanted o (yielded ops act.tmps) = true := by simp [Region.wanted, hgd]
  rw [if_pos hw]
  exact wp_owned s x t ho B e i z size bytes ht hi hz hsize hby hzs hsz hs hx rs h1 rx h63 hbytes hb h
end
end Go.Proofs.YtpapfnfdaklnlaaDoor
