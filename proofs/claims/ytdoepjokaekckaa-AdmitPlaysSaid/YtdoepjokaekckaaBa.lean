/- The book of bytes: a map from names to numbers of the call's own; the book's small calls. -/
import Derived.Test.YtdoepjokaekckaaOwn
import Derived.Maps.OwnSet
import Derived.Carry
import Derived.StringKeys
namespace Go.Proofs.Ytdoepjokaekckaa
set_option linter.unusedVariables false
open Go.RowKit Go.Maps

theorem keyS : Keyed Try.prog 9 := string_keyed Try.underlying9
theorem zeroI (w : World) : (zeroValue 2).run Try.prog w = .ok (.int .i64 0) w := by kernel_rfl
def kS (s : List UInt8) : Lit := .string s
def vI (n : Int) : DataW Unit := .lit (.int .i64 n)
theorem vI_inj {a b : Int} (h : vI a = vI b) : a = b := by unfold vI at h; injection h with h; injection h
theorem kS_ne {x y : List UInt8} (h : x ≠ y) : kS x ≠ kS y := fun e => h (by unfold kS at e; injection e)
theorem kS_key (x : List UInt8) : WideAt.IsKeyLit (kS x) := trivial
def NmD (D : DataW Unit) (F : List UInt8 → Int) : Prop := ∀ s, D.atKey (kS s) (vI 0) = vI (F s)
theorem nmD_empty : NmD (.map []) (fun _ => 0) := fun x => by simp [DataW.atKey]
theorem NmD.put {D : DataW Unit} {F : List UInt8 → Int} (h : NmD D F) (t : Tidy D) (s : List UInt8) (n : Int) : NmD (D.put (kS s) (vI n)) (fun y => if y = s then n else F y) := fun y => by
  show _ = vI (if y = s then n else F y)
  by_cases e : y = s
  · subst e
    rw [atKey_put_same t.isMap (kS_key y), if_pos rfl]
  · rw [atKey_put_other (kS_ne e), h, if_neg e]
theorem NmD.del {D : DataW Unit} {F : List UInt8 → Int} (h : NmD D F) (s : List UInt8) : NmD (D.del (kS s)) (fun y => if y = s then 0 else F y) := fun y => by
  show _ = vI (if y = s then 0 else F y)
  by_cases e : y = s
  · subst e
    rw [atKey_del_same, if_pos rfl]
  · rw [atKey_del_other (kS_ne e), h, if_neg e]
/-- Block m is a map that tells F. -/
def NmM (w : World) (m N : Nat) (F : List UInt8 → Int) : Prop := ∃ D : DataW Unit, w.ownsMap Try.prog 9 (plainElem Try.prog 2) m N D ∧ NmD D F
section
variable {w w' : World} {m N : Nat} {F : List UInt8 → Int} {v : Value}
theorem NmM.block (h : NmM w m N F) (e : w'.heap[m]? = w.heap[m]?) : NmM w' m N F := by
  obtain ⟨D, ⟨es, clock, hb, r⟩, hD⟩ := h
  exact ⟨D, ⟨es, clock, by rw [e]; exact hb, r⟩, hD⟩
theorem NmM.lt (h : NmM w m N F) : m < w.heap.size := by obtain ⟨D, h1, _⟩ := h; exact h1.lt
theorem NmM.chg {S : Nat → Prop} (h : NmM w m N F) (k : Chg S w w') (hb : ¬ S m) : NmM w' m N F := h.block (k.block m h.lt hb)
theorem NmM.mono (h : NmM w m N F) {N' : Nat} (hn : N ≤ N') : NmM w m N' F := by obtain ⟨D, h1, h2⟩ := h; exact ⟨D, h1.mono hn, h2⟩
theorem NmM.congr (h : NmM w m N F) {F' : List UInt8 → Int} (e : ∀ x, F x = F' x) : NmM w m N F' := by
  have : F = F' := funext e
  rw [← this]; exact h
theorem NmM.cell (h : NmM w m N F) {o : Nat} {u : Value} {b : Nat} (hc : w.cell? ⟨b, o, none⟩ = some u) : m ≠ b := by
  rintro rfl
  obtain ⟨D, ⟨es, clock, hb, r⟩, hD⟩ := h
  simp [World.cell?, hb] at hc
theorem nmM_made (w : World) : NmM (w.alloc (.map #[] 0)) w.heap.size 0 (fun _ => 0) := ⟨_, World.ownsMap_made _ _ _ _, nmD_empty⟩
/-- A map's value: nil, or such a block. -/
def NmV (w : World) (v : Value) (N : Nat) (F : List UInt8 → Int) : Prop := (v = .map none ∧ ∀ x, F x = 0) ∨ ∃ m, v = .map (some m) ∧ NmM w m N F
theorem NmV.chg {S : Nat → Prop} (h : NmV w v N F) (k : Chg S w w') (hb : ∀ m, v = .map (some m) → ¬ S m) : NmV w' v N F := by
  rcases h with h | ⟨m, rfl, h⟩
  · exact .inl h
  · exact .inr ⟨m, rfl, h.chg k (hb m rfl)⟩
theorem NmV.mono (h : NmV w v N F) {N' : Nat} (hn : N ≤ N') : NmV w v N' F := by
  rcases h with h | ⟨m, rfl, h⟩
  · exact .inl h
  · exact .inr ⟨m, rfl, h.mono hn⟩
theorem NmV.not (h : NmV w v N F) {b o : Nat} {u : Value} (hv : v = .map (some m)) (hc : w.cell? ⟨b, o, none⟩ = some u) : m ≠ b := by
  rcases h with ⟨rfl, _⟩ | ⟨m', rfl, h⟩
  · cases hv
  · injection hv with hv; injection hv with hv; subst hv; exact h.cell hc
theorem NmV.get (h : NmV w v N F) {s : ByteArray} (hs : s.size ≤ maxLen) : (Instr.lookup 49 v (.string s) false).run Try.prog w = .ok (.int .i64 (F s.data.toList)) w := by
  rcases h with ⟨rfl, h⟩ | ⟨m, rfl, D, h1, hD⟩
  · rw [h]
    exact Maps.look_nil false keyS Try.underlying49 (zeroI w) (Go.WideMaps.keyOf_string_mk Try.underlying9 hs)
  · obtain ⟨c, hrun, hat, _⟩ := h1.lookup_int keyS Try.underlying49 Try.underlying2 (zeroI w) (Go.WideMaps.keyOf_string_mk Try.underlying9 hs)
    have h2 : D.atKey (kS s.data.toList) (vI 0) = vI c := hat
    rw [hD] at h2
    rw [vI_inj h2]; exact hrun
end
section
variable {w : World} {ops : Array Oper} {rest : List Oper} {o : Oper} {a : Act} {Q : Exit → Act → World → Prop}
theorem list_nget (hg : o.guard = none) (m x : Operand) (hop : o.op = Op.lookup 49 m x false) (v : Value) (N : Nat) (F : List UInt8 → Int) (hm : a.eval m = v) (h : NmV w v N F) (s : ByteArray) (hx : a.eval x = .string s) (hs : s.size ≤ maxLen)
    (hK : wpList Try.prog ops Q rest (a.put o.dst (.int .i64 (F s.data.toList))) w) : wpList Try.prog ops Q (o :: rest) a w := by
  refine wpList_plain hg fun K' hK' => ?_
  unfold Oper.wp
  simp [execOp, hop, hm, hx, h.get hs, Result.andThen]
  exact hK' _ _ hK
theorem list_nput (hg : o.guard = none) (m x v : Operand) (hop : o.op = Op.mapUpdate 49 m x v) (b N : Nat) (F : List UInt8 → Int) (hm : a.eval m = .map (some b)) (h : NmM w b N F) (hn : N ≤ 100000000) (s : ByteArray) (hx : a.eval x = .string s) (hs : s.size ≤ maxLen) (n : Int) (hv : a.eval v = .int .i64 n) (hw : (Lit.int .i64 n).wf = true)
    (hK : ∀ w', NmM w' b (N + 1) (fun y => if y = s.data.toList then n else F y) → Chg (fun k => k = b) w w' → wpList Try.prog ops Q rest (a.put o.dst undef) w') : wpList Try.prog ops Q (o :: rest) a w := by
  obtain ⟨D, h1, hD⟩ := h
  refine wpList_mapUpdate_own (H := Unit) w hg m x v _ hop _ _ keyS Try.underlying49 _ b _ D hm h1 (by unfold maxLen; omega) _ _ (kS s.data.toList) hx hv (Go.WideMaps.keyOf_string_mk Try.underlying9 hs) (vI n) [] (plainElem_int Try.underlying2 hw) fun w' hw' hg' => hK w' ?_ (grown_chg hg' (fun k hk => by injection hk with hk; exact hk.symm))
  exact ⟨_, hw', hD.put (h1.tidy keyS) _ n⟩
theorem list_ndel (hg : o.guard = none) (m x : Operand) (hop : o.op = Op.call { callee := Callee.builtin Builtin.delete, args := #[m, x], argTypes := #[49, 9] }) (b N : Nat) (F : List UInt8 → Int) (hm : a.eval m = .map (some b)) (h : NmM w b N F) (s : ByteArray) (hx : a.eval x = .string s) (hs : s.size ≤ maxLen)
    (hK : ∀ w', NmM w' b N (fun y => if y = s.data.toList then 0 else F y) → Chg (fun k => k = b) w w' → wpList Try.prog ops Q rest (a.put o.dst (.tuple #[])) w') : wpList Try.prog ops Q (o :: rest) a w := by
  obtain ⟨D, h1, hD⟩ := h
  refine wpList_delete_own w hg m x _ _ hop _ keyS Try.underlying49 _ b _ D hm h1 _ (kS s.data.toList) hx (Go.WideMaps.keyOf_string_mk Try.underlying9 hs) fun w' hw' ht => hK w' ?_ (grown_chg ht.grown (fun k hk => by injection hk with hk; exact hk.symm))
  exact ⟨_, hw', hD.del _⟩
end
/-- The book's struct at block b. -/
structure Bk (w : World) (b : Nat) (room share all : Int) (v : Value) (N : Nat) (F : List UInt8 → Int) : Prop where
  c0 : w.cell? ⟨b, 0, none⟩ = some (.int .i64 room)
  c1 : w.cell? ⟨b, 1, none⟩ = some (.int .i64 share)
  c2 : w.cell? ⟨b, 2, none⟩ = some (.int .i64 all)
  c3 : w.cell? ⟨b, 3, none⟩ = some v
  fz : ∀ o, w.frozen? ⟨b, o, none⟩ = false
  mp : NmV w v N F
def ownB (b : Nat) (v : Value) (k : Nat) : Prop := k = b ∨ v = .map (some k)
section
variable {w w' : World} {b N : Nat} {room share all : Int} {v : Value} {F : List UInt8 → Int} {S : Nat → Prop}
theorem Bk.chg (h : Bk w b room share all v N F) (k : Chg S w w') (hn : ∀ i, ownB b v i → ¬ S i) : Bk w' b room share all v N F := by
  have lb := cell_lt h.c0
  have hb := hn b (.inl rfl)
  exact ⟨(k.cell lb hb _).trans h.c0, (k.cell lb hb _).trans h.c1, (k.cell lb hb _).trans h.c2, (k.cell lb hb _).trans h.c3, fun o => (k.frozen lb hb o).trans (h.fz o), h.mp.chg k fun m hm => hn m (.inr hm)⟩
theorem Bk.still (h : Bk w b room share all v N F) (k : Chg (fun _ => False) w w') : Bk w' b room share all v N F := h.chg k fun _ _ => id
theorem Bk.mono (h : Bk w b room share all v N F) {N' : Nat} (hN : N ≤ N') : Bk w b room share all v N' F := ⟨h.c0, h.c1, h.c2, h.c3, h.fz, h.mp.mono hN⟩
theorem Bk.lt (h : Bk w b room share all v N F) : ∀ k, ownB b v k → k < w.heap.size := by
  rintro k (rfl | rfl)
  · exact cell_lt h.c0
  · rcases h.mp with ⟨h1, _⟩ | ⟨m, h1, h2⟩
    · cases h1
    · injection h1 with h1; injection h1 with h1; subst h1; exact h2.lt
end
theorem right_yes (w : World) (n : Int) (h : 0 ≤ n ∧ n ≤ 1125899906842624) : Calls Try.prog 49 #[.int .i64 n] w fun e w' => e = .returned (.bool true) ∧ w = w' := by
  obtain ⟨h1, h2⟩ := h
  go_enter Try.func49, Try.ntmps49
  go_wp2
  go_ret
  exact ⟨rfl, rfl⟩
theorem right_no (w : World) (n : Int) (h : n < 0 ∨ 1125899906842624 < n) : Calls Try.prog 49 #[.int .i64 n] w fun e w' => e = .returned (.bool false) ∧ w = w' := by
  by_cases p : 0 ≤ n
  · have q : decide (n ≤ 1125899906842624) = false := by simp; omega
    go_enter Try.func49, Try.ntmps49
    go_wp2
    go_ret
    exact ⟨rfl, rfl⟩
  · have q : decide (0 ≤ n) = false := by simp; omega
    go_enter Try.func49, Try.ntmps49
    go_wp2
    go_ret
    exact ⟨rfl, rfl⟩
set_option maxHeartbeats 1000000 in
theorem asks_yes (w : World) (b : Nat) (s : ByteArray) (n : Int) (hs : s.size ≤ 200) (h : 0 ≤ n ∧ n ≤ 1125899906842624) : Calls Try.prog 52 #[.pointer (some ⟨b, 0, none⟩), .string s, .int .i64 n] w fun e w' => e = .returned (.bool true) ∧ w = w' := by
  have q : decide ((s.size : Int) ≤ 200) = true := by simp; omega
  have q' : (s.size : Int) ≤ 200 := by omega
  go_enter Try.func52, Try.ntmps52
  go_wp2_with fail
  refine (right_yes w n h).mono ?_
  rintro e w' ⟨rfl, rfl⟩
  go_wp2
  go_ret
  exact ⟨rfl, rfl⟩
set_option maxHeartbeats 1000000 in
theorem of_any (w : World) (b N : Nat) (room share all : Int) (v : Value) (F : List UInt8 → Int) (s : ByteArray) (h : Bk w b room share all v N F) (hs : s.size ≤ maxLen) : Calls Try.prog 48 #[.pointer (some ⟨b, 0, none⟩), .string s] w fun e w' => e = .returned (.int .i64 (F s.data.toList)) ∧ w = w' := by
  have c3 := h.c3
  have HM := Lib.hid h.mp
  clear h
  go_enter Try.func48, Try.ntmps48
  go_wp2_with (at_lookup; go_loud (refine list_nget rfl _ _ rfl v N F rfl HM.out s rfl hs ?_))
  go_ret
  exact ⟨rfl, rfl⟩
theorem all_any (w : World) (b N : Nat) (room share all : Int) (v : Value) (F : List UInt8 → Int) (h : Bk w b room share all v N F) : Calls Try.prog 47 #[.pointer (some ⟨b, 0, none⟩)] w fun e w' => e = .returned (.int .i64 all) ∧ w = w' := by
  have c2 := h.c2
  clear h
  go_enter Try.func47, Try.ntmps47
  go_wp2
  go_ret
  exact ⟨rfl, rfl⟩
set_option maxHeartbeats 1000000 in
theorem bnew_ok (w : World) (a s : Int) (h1 : 0 ≤ s) (h2 : s ≤ a) (h3 : a ≤ 1125899906842624) : Calls Try.prog 24 #[.int .i64 a, .int .i64 s] w fun e w' => e = .returned (.tuple #[.pointer (some ⟨w.heap.size, 0, none⟩), .int .i64 0]) ∧ Bk w' w.heap.size a s 0 (.map none) 0 (fun _ => 0) ∧ Chg (fun _ => False) w w' := by
  have q : decide (a < s) = false := by simp; omega
  go_enter Try.func24, Try.ntmps24
  go_wp2_with fail
  refine (right_yes w a (by omega)).mono ?_
  rintro e w' ⟨rfl, rfl⟩
  go_wp2_with fail
  refine (right_yes w s (by omega)).mono ?_
  rintro e w' ⟨rfl, rfl⟩
  go_wp2
  go_ret2
  exact ⟨rfl, ⟨by go_simp, by go_simp, by go_simp, by go_simp, fun o => by go_simp, .inl ⟨rfl, fun _ => rfl⟩⟩, (by repeat (first | with_reducible exact Chg.refl _ _ | with_reducible assumption | with_reducible refine Chg.drewN ?_ _ | with_reducible refine Chg.drew ?_ | with_reducible refine Chg.alloc ?_ _ | with_reducible refine Chg.setCell ?_ (by first | (left; rfl) | (left; left; rfl) | (left; right; rfl) | (left; right; left; rfl) | (left; right; right; rfl) | (right; exact Nat.le_refl _) | (right; simp; done) | (right; omega) | (right; simp at *; omega) | (simp at *; omega)) _ | with_reducible refine Chg.trans ?_ (by with_reducible assumption) (by intro i hi hT; first | exact hT | exact False.elim hT | omega | (simp at *; omega))))⟩
set_option maxHeartbeats 1000000 in
theorem bnew_no (w : World) (a s : Int) (h : ¬ (0 ≤ s ∧ s ≤ a ∧ a ≤ 1125899906842624)) : Calls Try.prog 24 #[.int .i64 a, .int .i64 s] w fun e w' => e = .returned (.tuple #[.pointer none, .int .i64 1]) ∧ w = w' := by
  by_cases p1 : 0 ≤ a ∧ a ≤ 1125899906842624
  · by_cases p2 : 0 ≤ s ∧ s ≤ 1125899906842624
    · have q : a < s := by omega
      go_enter Try.func24, Try.ntmps24
      go_wp2_with fail
      refine (right_yes w a p1).mono ?_
      rintro e w' ⟨rfl, rfl⟩
      go_wp2_with fail
      refine (right_yes w s p2).mono ?_
      rintro e w' ⟨rfl, rfl⟩
      go_wp2
      go_ret2
      exact ⟨rfl, rfl⟩
    · have HN := Lib.hid p2
      clear h p2
      go_enter Try.func24, Try.ntmps24
      go_wp2_with fail
      refine (right_yes w a p1).mono ?_
      rintro e w' ⟨rfl, rfl⟩
      go_wp2_with fail
      refine (right_no w s (by have := HN.out; omega)).mono ?_
      rintro e w' ⟨rfl, rfl⟩
      go_wp2
      go_ret2
      exact ⟨rfl, rfl⟩
  · have HN := Lib.hid p1
    clear h p1
    go_enter Try.func24, Try.ntmps24
    go_wp2_with fail
    refine (right_no w a (by have := HN.out; omega)).mono ?_
    rintro e w' ⟨rfl, rfl⟩
    go_wp2
    go_ret2
    exact ⟨rfl, rfl⟩
end Go.Proofs.Ytdoepjokaekckaa
