/- The reference's door in memory: its struct, its things, its list, its sketch; each block bears its owner's number. The reference's door: find, Has, Sum, in. The reference's door: Has, in, Sum, Things, Ask. The reference's door: Drop. Who goes for a thing by the reference's two passes, plain: the same that go by the door's own. -/
import Derived.Test.YtdoepjokaekckaaBn
import Derived.Test.YtdoepjokaekckaaSj
import Derived.Laws.Rows
namespace Go.Proofs.Ytdoepjokaekckaa
set_option linter.unusedVariables false
open Go.RowKit

theorem rgetX_none {X : List Tg} {x : Int} (h : ∀ t ∈ X, t.1 ≠ x) : getX X x = none := by
  cases e : getX X x with
  | none => rfl
  | some u => obtain ⟨e1, e2, _⟩ := getX_at e; exact absurd e1 (h u e2)
theorem rgetX_some {X : List Tg} {x : Int} : (getX X x).isSome = true ↔ ∃ t ∈ X, t.1 = x := by
  constructor
  · intro h
    cases e : getX X x with
    | none => rw [e] at h; cases h
    | some u => obtain ⟨e1, e2, _⟩ := getX_at e; exact ⟨u, e2, e1⟩
  · rintro ⟨t, ht, rfl⟩
    cases e : getX X t.1 with
    | none =>
      unfold getX at e
      have := List.find?_eq_none.1 e t ht
      simp [isX] at this
    | some u => rfl
/-- What a walk over things has summed. -/
theorem rsumX_take {X : List Tg} {k : Nat} {t : Tg} (h : X[k]? = some t) : sumX (X.take (k + 1)) = sumX (X.take k) + t.2.1 := by
  rw [List.take_add_one, h]
  show sumX (X.take k ++ [t]) = _
  rw [sumX_append, sumX_cons]
  simp [sumX, pts, sumP]
theorem rofX_take {X : List Tg} {k : Nat} {t : Tg} (h : X[k]? = some t) (s : List UInt8) : ofX (X.take (k + 1)) s = if s = ten t then ofX (X.take k) (ten t) + t.2.1 else ofX (X.take k) s := by
  rw [List.take_add_one, h]
  show ofX (X.take k ++ [t]) s = _
  rw [ofX_append, ofX_cons]
  have : ofX [] s = 0 := by simp [ofX, sumX, pts, sumP]
  rw [this]
  by_cases e : s = ten t
  · rw [if_pos e, if_pos e, e]; omega
  · rw [if_neg e, if_neg e]; omega
theorem rsumX_take_le {X : List Tg} (hb : ∀ t ∈ X, 1 ≤ t.2.1) (k : Nat) : 0 ≤ sumX (X.take k) ∧ sumX (X.take k) ≤ sumX X := by
  have h1 := sumX_nonneg (X := X.take k) fun t ht => hb t (List.mem_of_mem_take ht)
  have h2 := sumX_nonneg (X := X.drop k) fun t ht => hb t (List.mem_of_mem_drop ht)
  have h3 : sumX X = sumX (X.take k) + sumX (X.drop k) := by rw [← sumX_append, List.take_append_drop]
  omega
theorem rofX_take_le {X : List Tg} (hb : ∀ t ∈ X, 1 ≤ t.2.1) (k : Nat) (s : List UInt8) : 0 ≤ ofX (X.take k) s ∧ ofX (X.take k) s ≤ ofX X s := by
  have h1 := ofX_nonneg (X := X.take k) (fun t ht => hb t (List.mem_of_mem_take ht)) s
  have h2 := ofX_nonneg (X := X.drop k) (fun t ht => hb t (List.mem_of_mem_drop ht)) s
  have h3 : ofX X s = ofX (X.take k) s + ofX (X.drop k) s := by rw [← ofX_append, List.take_append_drop]
  omega
/-- 1: the struct; 2: the row of things; 3: the list; 4: the sketch. -/
structure RdR (w : World) (lr : Nat → Nat) (b lb sb : Nat) (a : Option Addr) (c : Nat) (room share : Int) (L T K : List Tg) (ns : List Int) : Prop where
  c0 : w.cell? ⟨b, 0, none⟩ = some (.int .i64 room)
  c1 : w.cell? ⟨b, 1, none⟩ = some (.int .i64 share)
  c2 : w.cell? ⟨b, 2, none⟩ = some (.slice a L.length c)
  c3 : w.cell? ⟨b, 3, none⟩ = some (.pointer (some ⟨lb, 0, none⟩))
  c4 : w.cell? ⟨b, 4, none⟩ = some (.pointer (some ⟨sb, 0, none⟩))
  fz : ∀ o, w.frozen? ⟨b, o, none⟩ = false
  l1 : lr b = 1
  row : IsT w a c L
  l2 : ∀ g, (Value.slice a L.length c).ownBlock = some g → lr g = 2
  ls : Rf w (fun k => lr k = 3) lb (room - room / 5) (pts T) (pts K)
  sk : Sk.RfO w (fun k => lr k = 4) sb 4 1024 16384 ns.length (tabN ns) (4 * ns.length) (4 * ns.length)
  low : ∀ k, lr k ≠ 0 → k < w.heap.size
/-- The door with its things in some order. -/
def Rd (w : World) (lr : Nat → Nat) (b : Nat) (room share : Int) (T K : List Tg) (ns : List Int) : Prop := ∃ lb sb a c L, RdR w lr b lb sb a c room share L T K ns ∧ L.Perm (T ++ K) ∧ DInv room share T K
section
variable {w w' : World} {lr : Nat → Nat} {b lb sb c : Nat} {a : Option Addr} {room share : Int} {L T K : List Tg} {ns : List Int} {S : Nat → Prop}
theorem RdR.chg (h : RdR w lr b lb sb a c room share L T K ns) (k : Chg S w w') (hS : ∀ i, i < w.heap.size → S i → lr i = 0) : RdR w' lr b lb sb a c room share L T K ns := by
  have lb' := cell_lt h.c0
  have k' : Chg (fun i => lr i = 0) w w' := k.mono hS
  have hb : ¬ lr b = 0 := by rw [h.l1]; omega
  exact ⟨(k'.cell lb' hb _).trans h.c0, (k'.cell lb' hb _).trans h.c1, (k'.cell lb' hb _).trans h.c2, (k'.cell lb' hb _).trans h.c3, (k'.cell lb' hb _).trans h.c4, fun o => (k'.frozen lb' hb o).trans (h.fz o), h.l1,
    h.row.keep k' fun g hg => by rw [h.l2 g hg]; omega, h.l2, h.ls.chg k' fun i hi => by have hi : lr i = 3 := hi; rw [hi]; omega, h.sk.chg k' fun i hi => by have hi : lr i = 4 := hi; rw [hi]; omega, fun i hi => Nat.lt_of_lt_of_le (h.low i hi) k.size⟩
theorem RdR.still (h : RdR w lr b lb sb a c room share L T K ns) (k : Chg (fun _ => False) w w') : RdR w' lr b lb sb a c room share L T K ns := h.chg k fun _ _ h => h.elim
theorem Rd.chg (h : Rd w lr b room share T K ns) (k : Chg S w w') (hS : ∀ i, i < w.heap.size → S i → lr i = 0) : Rd w' lr b room share T K ns := by
  obtain ⟨lb, sb, a, c, L, h, h2⟩ := h
  exact ⟨lb, sb, a, c, L, h.chg k hS, h2⟩
theorem Rd.still (h : Rd w lr b room share T K ns) (k : Chg (fun _ => False) w w') : Rd w' lr b room share T K ns := h.chg k fun _ _ h => h.elim
theorem Rd.inv (h : Rd w lr b room share T K ns) : DInv room share T K := by obtain ⟨lb, sb, a, c, L, h, h2, h3⟩ := h; exact h3
theorem Rd.low (h : Rd w lr b room share T K ns) {k : Nat} (hk : w.heap.size ≤ k) : lr k = 0 := by
  obtain ⟨lb, sb, a, c, L, h, _⟩ := h
  rcases Nat.eq_zero_or_pos (lr k) with e | e
  · exact e
  · have := h.low k (by omega); omega
theorem get_perm {L T K : List Tg} (hp : L.Perm (T ++ K)) (hi : DInv room share T K) (x : Int) : getX L x = getX (T ++ K) x := (getX_perm hp.symm hi.nodup x).symm
/-- The list has turned. -/
theorem RdR.list {T2 K2 : List Tg} (h : RdR w lr b lb sb a c room share L T K ns) (p : RfPost w (fun k => lr k = 3) lb (room - room / 5) (pts T2) (pts K2) w')   : RdR w' (relab lr w w' 3) b lb sb a c room share L T2 K2 ns ∧ Chg (fun k => lr k = 3) w w' := by
  obtain ⟨p1, k1⟩ := p
  have k' : Chg (fun k => lr k = 3) w w' := k1.mono fun i _ hi => by rw [hi]; exact h.ls.own
  have lb' := cell_lt h.c0
  have hb : ¬ lr b = 3 := by rw [h.l1]; omega
  have hs := k'.size
  refine ⟨⟨(k'.cell lb' hb _).trans h.c0, (k'.cell lb' hb _).trans h.c1, (k'.cell lb' hb _).trans h.c2, (k'.cell lb' hb _).trans h.c3, (k'.cell lb' hb _).trans h.c4, fun o => (k'.frozen lb' hb o).trans (h.fz o), by rw [relab_old lb']; exact h.l1,
    h.row.keep k' fun g hg => by rw [h.l2 g hg]; omega, fun g hg => ?_, ?_, ?_, relab_low h.low hs⟩, k'⟩
  · have := h.l2 g hg
    rw [relab_old (h.low g (by omega))]; exact this
  · obtain ⟨a1, c1, a2, c2, q1, q2, q3, q4, q5⟩ := p1
    have go : ∀ k, GrowO (fun k => lr k = 3) w w' k → relab lr w w' 3 k = 3 := fun k hk => by
      rcases hk with hk | hk
      · have hk : lr k = 3 := hk
        rw [relab_old (h.low k (by omega))]; exact hk
      · unfold relab; rw [if_pos hk]
    exact ⟨a1, c1, a2, c2, q1, go _ q2, fun g hg => go _ (q3 g hg), fun g hg => go _ (q4 g hg), fun k hk => relab_low h.low hs k (by rw [hk]; omega)⟩
  · refine (h.sk.chg k' fun i hi => by have hi : lr i = 4 := hi; rw [hi]; omega).wide (fun k hk => ?_) fun k hk => relab_low h.low hs k (by rw [hk]; omega)
    have hk : lr k = 4 := hk
    show relab lr w w' 3 k = 4
    rw [relab_old (h.low k (by omega))]; exact hk
/-- The sketch has turned. -/
theorem RdR.count {nm : Int} (h : RdR w lr b lb sb a c room share L T K ns) (p : Sk.RfO w' (Sk.GrowS (fun k => lr k = 4) w w') sb 4 1024 16384 (ns.length + 1) (Sk.bump (tabN ns) 1024 nm 4) (4 * ns.length + 4) (4 * ns.length + 4)) (k' : Chg (fun k => lr k = 4) w w') : RdR w' (relab lr w w' 4) b lb sb a c room share L T K (ns ++ [nm]) := by
  have lb' := cell_lt h.c0
  have hb : ¬ lr b = 4 := by rw [h.l1]; omega
  have hs := k'.size
  refine ⟨(k'.cell lb' hb _).trans h.c0, (k'.cell lb' hb _).trans h.c1, (k'.cell lb' hb _).trans h.c2, (k'.cell lb' hb _).trans h.c3, (k'.cell lb' hb _).trans h.c4, fun o => (k'.frozen lb' hb o).trans (h.fz o), by rw [relab_old lb']; exact h.l1,
    h.row.keep k' fun g hg => by rw [h.l2 g hg]; omega, fun g hg => ?_, ?_, ?_, relab_low h.low hs⟩
  · have := h.l2 g hg
    rw [relab_old (h.low g (by omega))]; exact this
  · obtain ⟨a1, c1, a2, c2, q1, q2, q3, q4, q5⟩ := h.ls.chg k' fun i hi => by have hi : lr i = 3 := hi; rw [hi]; omega
    have go : ∀ k, lr k = 3 → relab lr w w' 4 k = 3 := fun k hk => by rw [relab_old (h.low k (by omega))]; exact hk
    exact ⟨a1, c1, a2, c2, q1, go _ q2, fun g hg => go _ (q3 g hg), fun g hg => go _ (q4 g hg), fun k hk => relab_low h.low hs k (by rw [hk]; omega)⟩
  · have e1 : ((ns ++ [nm]).length : Int) = ns.length + 1 := by simp
    have e2 : 4 * (ns ++ [nm]).length = 4 * ns.length + 4 := by simp; omega
    have e3 : 4 * ((ns.length : Int) + 1) = 4 * (ns.length : Int) + 4 := by omega
    rw [e2, e1, e3, tabN_snoc]
    refine p.wide (fun k hk => ?_) fun k hk => relab_low h.low hs k (by rw [hk]; omega)
    show relab lr w w' 4 k = 4
    rcases hk with hk | hk
    · have hk : lr k = 4 := hk
      rw [relab_old (h.low k (by omega))]; exact hk
    · unfold relab; rw [if_pos hk]
/-- The things have turned: a new row. -/
def relabT (lr : Nat → Nat) (v : Value) (k : Nat) : Nat := if v.ownBlock = some k then 2 else lr k
theorem RdR.things {a2 : Option Addr} {c2 : Nat} {L2 : List Tg} (h : RdR w lr b lb sb a c room share L T K ns) (hr : IsT w a2 c2 L2) (hl : ∀ g, (Value.slice a2 L2.length c2).ownBlock = some g → lr g = 0 ∧ g < w.heap.size) :
    RdR (w.setCell ⟨b, 2, none⟩ (.slice a2 L2.length c2)) (relabT lr (.slice a2 L2.length c2)) b lb sb a2 c2 room share L2 T K ns := by
  have k' : Chg (fun k => k = b) w (w.setCell ⟨b, 2, none⟩ (.slice a2 L2.length c2)) := Chg.setCell (Chg.refl (fun k => k = b) w) (p := ⟨b, 2, none⟩) (.inl rfl) _
  have hs := k'.size
  have old : ∀ k, lr k ≠ 0 → relabT lr (.slice a2 L2.length c2) k = lr k := fun k hk => by
    unfold relabT
    rw [if_neg fun e => hk (hl k e).1]
  have hlow : ∀ k, relabT lr (.slice a2 L2.length c2) k ≠ 0 → k < (w.setCell ⟨b, 2, none⟩ (.slice a2 L2.length c2)).heap.size := fun k hk => by
    unfold relabT at hk
    split at hk
    · rename_i e; exact Nat.lt_of_lt_of_le (hl k e).2 hs
    · exact Nat.lt_of_lt_of_le (h.low k hk) hs
  have three : ∀ k, relabT lr (.slice a2 L2.length c2) k = 3 → lr k = 3 := fun k hk => by
    unfold relabT at hk
    split at hk
    · cases hk
    · exact hk
  refine ⟨?_, ?_, cell_same h.c2, ?_, ?_, fun o => ?_, by rw [old b (by rw [h.l1]; omega)]; exact h.l1, hr.keep k' (fun g hg e => by rw [e] at hg; have := (hl b hg).1; rw [h.l1] at this; omega), fun g hg => ?_, ?_, ?_, hlow⟩
  · rw [cell_other (by simp)]; exact h.c0
  · rw [cell_other (by simp)]; exact h.c1
  · rw [cell_other (by simp)]; exact h.c3
  · rw [cell_other (by simp)]; exact h.c4
  · rw [World.frozen?_setCell]; exact h.fz o
  · unfold relabT; rw [if_pos hg]
  · obtain ⟨a1, c1, a3, c3, q1, q2, q3, q4, q5⟩ := h.ls.chg k' fun i hi e => by have hi : lr i = 3 := hi; rw [e, h.l1] at hi; cases hi
    have go : ∀ k, lr k = 3 → relabT lr (.slice a2 L2.length c2) k = 3 := fun k hk => by rw [old k (by omega)]; exact hk
    exact ⟨a1, c1, a3, c3, q1, go _ q2, fun g hg => go _ (q3 g hg), fun g hg => go _ (q4 g hg), fun k hk => hlow k (by rw [hk]; omega)⟩
  · refine (h.sk.chg k' fun i hi e => by have hi : lr i = 4 := hi; rw [e, h.l1] at hi; cases hi).wide (fun k hk => ?_) fun k hk => hlow k (by rw [hk]; omega)
    have hk : lr k = 4 := hk
    show relabT lr _ k = 4
    rw [old k (by omega)]; exact hk
end
end Go.Proofs.Ytdoepjokaekckaa
namespace Go.Proofs.Ytdoepjokaekckaa
set_option linter.unusedVariables false
open Go.RowKit

theorem getX_take {L : List Tg} {k : Nat} {x : Int} {t : Tg} (h : L[k]? = some t) (hn : getX (L.take k) x = none) : getX (L.take (k + 1)) x = if t.1 = x then some t else none := by
  rw [List.take_add_one, h]
  show getX (L.take k ++ [t]) x = _
  rw [getX_append, hn]
  unfold getX
  rw [List.find?_cons]
  by_cases e : t.1 = x
  · have : isX x t = true := by simp [isX, e]
    rw [this, if_pos e]; rfl
  · have : isX x t = false := by simp [isX, e]
    rw [this, if_neg e]; rfl
theorem getX_here {L : List Tg} {k : Nat} {x : Int} {t : Tg} (h : L[k]? = some t) (hn : getX (L.take k) x = none) (e : t.1 = x) : getX L x = some t := by
  have h1 := getX_take h hn
  rw [if_pos e] at h1
  have h2 : L = L.take (k + 1) ++ L.drop (k + 1) := (List.take_append_drop _ _).symm
  rw [h2, getX_append, h1]; rfl
theorem box_cells {w : World} {g : Nat} {v0 v1 v2 v3 : Value} {t : TypeId} (h : w.heap[g]? = some (.cells #[v0, v1, v2, v3] t (0, 0))) : w.cell? ⟨g, 0, none⟩ = some v0 ∧ w.cell? ⟨g, 1, none⟩ = some v1 ∧ w.cell? ⟨g, 2, none⟩ = some v2 ∧ w.cell? ⟨g, 3, none⟩ = some v3 ∧ ∀ o, w.frozen? ⟨g, o, none⟩ = false := by
  refine ⟨by simp [World.cell?, h], by simp [World.cell?, h], by simp [World.cell?, h], by simp [World.cell?, h], fun o => by simp [World.frozen?, h]⟩
theorem set4_heap {w : World} {g : Nat} {v0 v1 v2 v3 : Value} {t : TypeId} (h : w.heap[g]? = some (.cells #[v0, v1, v2, v3] t (0, 0))) (x0 x1 x2 x3 : Value) : ((((w.setCell ⟨g, 0, none⟩ x0).setCell ⟨g, 1, none⟩ x1).setCell ⟨g, 2, none⟩ x2).setCell ⟨g, 3, none⟩ x3).heap[g]? = some (.cells #[x0, x1, x2, x3] t (0, 0)) := by
  simp [World.setCell, Array.getElem?_modify, h]
theorem set4_chg (w : World) (g : Nat) (x0 x1 x2 x3 : Value) : Chg (fun i => i = g) w ((((w.setCell ⟨g, 0, none⟩ x0).setCell ⟨g, 1, none⟩ x1).setCell ⟨g, 2, none⟩ x2).setCell ⟨g, 3, none⟩ x3) :=
  ((((Chg.refl (fun i => i = g) w).setCell (p := ⟨g, 0, none⟩) (.inl rfl) x0).setCell (p := ⟨g, 1, none⟩) (.inl rfl) x1).setCell (p := ⟨g, 2, none⟩) (.inl rfl) x2).setCell (p := ⟨g, 3, none⟩) (.inl rfl) x3
/-- Two results, the first in a cell. -/
theorem results_cell_tmp {P : Program} {fn : Func} {p q : Tmp} {ty : TypeId} (h : fn.results = #[.cell p ty, .tmp q]) (tmps : Array Value) (w : World) (g : Nat) (t : TypeId) (cs : Array Value) (fr : Nat × Nat) (d : TypeDesc)
    (hp : tmps.getD p undef = .pointer (some ⟨g, 0, none⟩)) (hg : w.heap[g]? = some (.cells cs t fr))
    (hu : P.underlying ty = some d) (hd : (match d with | .struct _ | .array _ _ => true | _ => false) = true) (hi : (P.info? ty).map (·.size) = some cs.size) :
    (results fn tmps).run P w = .ok (.tuple #[.agg cs, tmps.getD q undef]) w := by
  have hp' : tmps[p]?.getD undef = .pointer (some ⟨g, 0, none⟩) := by simpa using hp
  simp [results, h, hp', asAddr, run_loadVar_row w g t ty cs fr d hg hu hd hi]
set_option maxHeartbeats 4000000 in
set_option maxRecDepth 10000 in
theorem rfind_any (w : World) (lr : Nat → Nat) (b lb sb : Nat) (a : Option Addr) (c : Nat) (room share : Int) (L T K : List Tg) (ns : List Int) (x : Int) (h : RdR w lr b lb sb a c room share L T K ns) :
    Calls Try.prog 34 #[.pointer (some ⟨b, 0, none⟩), .int .i64 x] w fun e w' => e = .returned (.tuple #[tv ((getX L x).getD tz), .bool (getX L x).isSome]) ∧ Chg (fun _ => False) w w' := by
  have c2 := h.c2
  have hl : L.length ≤ 9223372036854775807 := Nat.le_trans h.row.le.1 h.row.le.2
  have HR := Lib.hid h.row
  have lb' := cell_lt c2
  clear h
  go_enter Try.func34, Try.ntmps34
  go_upto_region 1 with fail
  refine name_region ?_; intro W hW
  have gW : Chg (fun _ => False) w W := by subst hW; exact (by repeat (first | with_reducible exact Chg.refl _ _ | with_reducible assumption | with_reducible refine Chg.drewN ?_ _ | with_reducible refine Chg.drew ?_ | with_reducible refine Chg.alloc ?_ _ | with_reducible refine Chg.setCell ?_ (by first | (left; rfl) | (left; left; rfl) | (left; right; rfl) | (left; right; left; rfl) | (left; right; right; rfl) | (right; exact Nat.le_refl _) | (right; simp; done) | (right; omega) | (right; simp at *; omega) | (simp at *; omega)) _ | with_reducible refine Chg.trans ?_ (by with_reducible assumption) (by intro i hi hT; first | exact hT | exact False.elim hT | omega | (simp at *; omega))))
  have HW : Hid (W.heap[w.heap.size]? = some (.cells #[.int .i64 0, .int .i64 0, .string ByteArray.empty, .int .u64 0] 34 (0, 0))) := by subst hW; exact heap_alloc_new _ _
  replace c2 := (gW.cell lb' id _).trans c2
  have lW : w.heap.size < W.heap.size := by subst hW; simp
  have GW := Lib.hid gW
  clear hW gW
  go_wp2_with fail
  go_loopw [13] (fun i wr => ∃ k : Nat, k ≤ L.length ∧ i = .int .i64 (↑k : Int) ∧ Hid (getX (L.take k) x = none) ∧ Hid (Chg (fun _ => False) W wr)) (fun i _ => L.length - (intOf i).toNat)
  case atStart => exact ⟨0, by omega, rfl, rfl, Chg.refl _ _⟩
  case round =>
    obtain ⟨k, hk, rfl, HN, HG⟩ := hrel
    by_cases hkt : k < L.length
    · obtain ⟨⟨y, n, s, nm⟩, ht⟩ : ∃ t, L[k]? = some t := ⟨_, List.getElem?_eq_getElem hkt⟩
      obtain ⟨g, o, rfl, k0, k1, k2, k3⟩ := ((HR.out.keep GW.out fun _ _ => id).keep HG.out fun _ _ => id).at ht
      have HT := Lib.hid ht
      have lr' := HG.out.size
      clear ht
      go_upto_region 4 with fail
      refine name_region ?_; intro W3 hW3
      have gW3 : Chg (fun _ => False) wr W3 := by subst hW3; exact (by repeat (first | with_reducible exact Chg.refl _ _ | with_reducible assumption | with_reducible refine Chg.drewN ?_ _ | with_reducible refine Chg.drew ?_ | with_reducible refine Chg.alloc ?_ _ | with_reducible refine Chg.setCell ?_ (by first | (left; rfl) | (left; left; rfl) | (left; right; rfl) | (left; right; left; rfl) | (left; right; right; rfl) | (right; exact Nat.le_refl _) | (right; simp; done) | (right; omega) | (right; simp at *; omega) | (simp at *; omega)) _ | with_reducible refine Chg.trans ?_ (by with_reducible assumption) (by intro i hi hT; first | exact hT | exact False.elim hT | omega | (simp at *; omega))))
      have f0 : W3.cell? ⟨wr.heap.size, 0, none⟩ = some (.int .i64 y) := by subst hW3; go_simp
      have f1 : W3.cell? ⟨wr.heap.size, 1, none⟩ = some (.int .i64 n) := by subst hW3; go_simp
      have f2 : W3.cell? ⟨wr.heap.size, 2, none⟩ = some (.string s) := by subst hW3; go_simp
      have f3 : W3.cell? ⟨wr.heap.size, 3, none⟩ = some (.int .u64 nm) := by subst hW3; go_simp
      have HG3 := Lib.hid (HG.out.trans gW3 fun _ _ h => h)
      have HB3 : Hid (W3.heap[w.heap.size]? = some (.cells #[.int .i64 0, .int .i64 0, .string ByteArray.empty, .int .u64 0] 34 (0, 0))) := ((HG3.out.block _ lW id).trans HW.out)
      clear hW3 k0 k1 k2 k3 gW3
      by_cases hyx : y = x
      · subst hyx
        obtain ⟨e0, e1, e2, e3, ef⟩ := box_cells HB3.out
        go_wp2_with fail
        have hx : getX L y = some (y, n, s, nm) := getX_here HT.out HN.out rfl
        refine bodyPost_ret (v := .tuple #[tv (y, n, s, nm), .bool true]) ?_ rfl ⟨by rw [hx]; rfl, (GW.out.trans HG3.out fun _ _ h => h).trans (set4_chg W3 w.heap.size _ _ _ _) fun i hi e => by omega⟩
        refine (results_cell_tmp (fn := Try.f34) rfl _ _ w.heap.size 34 _ (0, 0) _ rfl (set4_heap HB3.out _ _ _ _) Try.underlying34 rfl (by kernel_rfl)).trans rfl
      · have q1 : (y == x) = false := by simpa using hyx
        have HX := Lib.hid hyx
        clear hyx
        go_wp2
        go_roundw
        case rel => exact ⟨k + 1, by omega, by go_num, (by show _ = _; rw [getX_take HT.out HN.out, if_neg HX.out]), HG3.out⟩
        case measure => simp [intOf]; omega
    · obtain rfl : k = L.length := by omega
      rw [List.take_length] at HN
      have HBE : Hid (wr.heap[w.heap.size]? = some (.cells #[.int .i64 0, .int .i64 0, .string ByteArray.empty, .int .u64 0] 34 (0, 0))) := ((HG.out.block _ lW id).trans HW.out)
      obtain ⟨e0, e1, e2, e3, ef⟩ := box_cells HBE.out
      go_wp2_with fail
      have hx : getX L x = none := HN.out
      refine bodyPost_ret (v := .tuple #[tv tz, .bool false]) ?_ rfl ⟨by rw [hx]; rfl, (GW.out.trans HG.out fun _ _ h => h).trans (set4_chg wr w.heap.size _ _ _ _) fun i hi e => by omega⟩
      refine (results_cell_tmp (fn := Try.f34) rfl _ _ w.heap.size 34 _ (0, 0) _ rfl (set4_heap HBE.out _ _ _ _) Try.underlying34 rfl (by kernel_rfl)).trans rfl
end Go.Proofs.Ytdoepjokaekckaa
namespace Go.Proofs.Ytdoepjokaekckaa
set_option linter.unusedVariables false
open Go.RowKit

set_option maxHeartbeats 1000000 in
theorem rhas_any (w : World) (lr : Nat → Nat) (b : Nat) (room share : Int) (T K : List Tg) (ns : List Int) (x : Int) (h : Rd w lr b room share T K ns) :
    Calls Try.prog 23 #[.pointer (some ⟨b, 0, none⟩), .int .i64 x] w fun e w' => e = .returned (.bool (getX (T ++ K) x).isSome) ∧ Chg (fun _ => False) w w' := by
  obtain ⟨lb, sb, a, c, L, h, hp, hi⟩ := h
  rw [← get_perm hp hi]
  have H := Lib.hid h
  obtain ⟨r, hr⟩ : ∃ r, r = (getX L x).isSome := ⟨_, rfl⟩
  rw [← hr]
  have HR := Lib.hid hr
  clear h hp hi hr
  go_enter Try.func23, Try.ntmps23
  go_wp2_with fail
  refine (rfind_any w lr b lb sb a c room share L T K ns x H.out).mono ?_; rintro e w1 ⟨rfl, g1⟩
  obtain ⟨⟨a1, a2, a3, a4⟩, ha⟩ : ∃ t, t = (getX L x).getD tz := ⟨_, rfl⟩
  rw [← HR.out, ← ha]
  simp only [tv]
  have G1 := Lib.hid g1
  clear ha g1
  go_wp2
  go_ret
  exact ⟨rfl, G1.out.trans (show Chg (fun _ => False) w1 _ from (by repeat (first | with_reducible exact Chg.refl _ _ | with_reducible assumption | with_reducible refine Chg.drewN ?_ _ | with_reducible refine Chg.drew ?_ | with_reducible refine Chg.alloc ?_ _ | with_reducible refine Chg.setCell ?_ (by first | (left; rfl) | (left; left; rfl) | (left; right; rfl) | (left; right; left; rfl) | (left; right; right; rfl) | (right; exact Nat.le_refl _) | (right; simp; done) | (right; omega) | (right; simp at *; omega) | (simp at *; omega)) _ | with_reducible refine Chg.trans ?_ (by with_reducible assumption) (by intro i hi hT; first | exact hT | exact False.elim hT | omega | (simp at *; omega))))) fun _ _ h => h⟩
set_option maxHeartbeats 1000000 in
theorem rin_any (w : World) (a : Option Addr) (c : Nat) (l : List Int) (n : Int) (h : IsH w a l) (hl : l.length ≤ 9223372036854775807) :
    Calls Try.prog 56 #[.slice a l.length c, .int .i64 n] w fun e w' => e = .returned (.bool (decide (n ∈ l))) ∧ w = w' := by
  have H := Lib.hid h
  clear h
  go_enter Try.func56, Try.ntmps56
  go_wp2_with fail
  go_loop [9] (fun i => ∃ k : Nat, k ≤ l.length ∧ i = .int .i64 (↑k : Int) ∧ Hid (n ∉ l.take k)) (fun i => l.length - (intOf i).toNat)
  case atStart => exact ⟨0, by omega, rfl, by show n ∉ _; simp⟩
  case round =>
    obtain ⟨k, hk, rfl, HN⟩ := hrel
    by_cases hkt : k < l.length
    · obtain ⟨y, hy⟩ : ∃ y, l[k]? = some y := ⟨_, List.getElem?_eq_getElem hkt⟩
      obtain ⟨g, o, rfl, k0⟩ := H.out.at hy
      have HY := Lib.hid hy
      clear hy
      by_cases hyn : y = n
      · subst hyn
        have HM : Hid (decide (y ∈ l) = true) := decP (List.mem_of_getElem? HY.out)
        go_wp2
        go_ret
        exact ⟨by rw [HM.out]; rfl, rfl⟩
      · have q1 : (y == n) = false := by simpa using hyn
        have HX := Lib.hid hyn
        clear hyn
        go_wp2
        go_round
        case rel => exact ⟨k + 1, by omega, by go_num, by show n ∉ _; rw [List.take_add_one, HY.out]; simp; exact ⟨HN.out, fun e => HX.out e.symm⟩⟩
        case measure => simp [intOf]; omega
    · obtain rfl : k = l.length := by omega
      rw [List.take_length] at HN
      have HM : Hid (decide (n ∈ l) = false) := decN HN.out
      go_wp2
      go_ret
      exact ⟨by rw [HM.out]; rfl, rfl⟩
set_option maxHeartbeats 2000000 in
theorem rsum_any (w : World) (lr : Nat → Nat) (b : Nat) (room share : Int) (T K : List Tg) (ns : List Int) (s : ByteArray) (h : Rd w lr b room share T K ns) :
    Calls Try.prog 44 #[.pointer (some ⟨b, 0, none⟩), .string s] w fun e w' => e = .returned (.tuple #[.int .i64 (sumX (T ++ K)), .int .i64 (ofX (T ++ K) s.data.toList)]) ∧ Chg (fun _ => False) w w' := by
  obtain ⟨lb, sb, a, c, L, h, hp, hi⟩ := h
  have c2 := h.c2
  have hl : L.length ≤ 9223372036854775807 := Nat.le_trans h.row.le.1 h.row.le.2
  have HR := Lib.hid h.row
  have HS : Hid (sumX L = sumX (T ++ K) ∧ ofX L s.data.toList = ofX (T ++ K) s.data.toList) := ⟨sumX_perm hp, ofX_perm hp _⟩
  have HB1 : Hid (∀ t ∈ L, 1 ≤ t.2.1) := fun t ht => (hi.each t (hp.mem_iff.1 ht)).1.1
  have HTOP : Hid (sumX L ≤ 1125899906842624 ∧ ofX L s.data.toList ≤ 1125899906842624) := by
    have h1 := hi.all
    have h2 := hi.own s.data.toList
    have h3 := hi.bd
    exact ⟨by rw [HS.out.1]; omega, by rw [HS.out.2]; omega⟩
  have lb' := cell_lt c2
  clear h hp hi
  go_enter Try.func44, Try.ntmps44
  go_wp2_with fail
  go_loopw [6, 7, 15] (fun o6 o7 i wr => ∃ (k : Nat) (A B : Int), k ≤ L.length ∧ o6 = .int .i64 A ∧ o7 = .int .i64 B ∧ i = .int .i64 (↑k : Int) ∧ Hid (A = sumX (L.take k)) ∧ Hid (B = ofX (L.take k) s.data.toList) ∧ Hid (Chg (fun _ => False) w wr)) (fun _ _ i _ => L.length - (intOf i).toNat)
  case atStart => exact ⟨0, 0, 0, by omega, rfl, rfl, rfl, by show (0 : Int) = _; simp [sumX, pts, sumP], by show (0 : Int) = _; simp [ofX, sumX, pts, sumP], Chg.refl _ _⟩
  case round =>
    obtain ⟨k, A, B, hk, rfl, rfl, rfl, HA, HB, HG⟩ := hrel
    by_cases hkt : k < L.length
    · obtain ⟨⟨y, n, q, nm⟩, ht⟩ : ∃ t, L[k]? = some t := ⟨_, List.getElem?_eq_getElem hkt⟩
      obtain ⟨g, o, rfl, k0, k1, k2, k3⟩ := (HR.out.keep HG.out fun _ _ => id).at ht
      have HT1 : Hid (sumX (L.take (k + 1)) = A + n) := by show _ = _; rw [rsumX_take ht, HA.out]
      have HT2 : Hid (ofX (L.take (k + 1)) s.data.toList = if s = q then B + n else B) := by
        show _ = _
        have h9 : ofX (L.take (k + 1)) s.data.toList = if s.data.toList = q.data.toList then ofX (L.take k) q.data.toList + n else ofX (L.take k) s.data.toList := rofX_take ht _
        rw [h9]
        by_cases e : s = q
        · subst e
          rw [if_pos rfl, if_pos rfl, HB.out]
        · rw [if_neg e, if_neg fun h => e (bytes_ext h), HB.out]
      have r1 := rsumX_take_le HB1.out (k + 1)
      have r2 := rofX_take_le HB1.out (k + 1) s.data.toList
      rw [HT1.out] at r1
      rw [HT2.out] at r2
      have r3 := HTOP.out
      have e1 : IntKind.i64.wrap (A + n) = A + n := IntWalk.i64_in _ (by omega)
      clear ht
      go_upto_region 5 with fail
      refine name_region ?_; intro W3 hW3
      have gW3 : Chg (fun _ => False) wr W3 := by subst hW3; exact (by repeat (first | with_reducible exact Chg.refl _ _ | with_reducible assumption | with_reducible refine Chg.drewN ?_ _ | with_reducible refine Chg.drew ?_ | with_reducible refine Chg.alloc ?_ _ | with_reducible refine Chg.setCell ?_ (by first | (left; rfl) | (left; left; rfl) | (left; right; rfl) | (left; right; left; rfl) | (left; right; right; rfl) | (right; exact Nat.le_refl _) | (right; simp; done) | (right; omega) | (right; simp at *; omega) | (simp at *; omega)) _ | with_reducible refine Chg.trans ?_ (by with_reducible assumption) (by intro i hi hT; first | exact hT | exact False.elim hT | omega | (simp at *; omega))))
      have f1 : W3.cell? ⟨wr.heap.size, 1, none⟩ = some (.int .i64 n) := by subst hW3; go_simp
      have f2 : W3.cell? ⟨wr.heap.size, 2, none⟩ = some (.string q) := by subst hW3; go_simp
      have HG3 := Lib.hid (HG.out.trans gW3 fun _ _ h => h)
      clear hW3 k0 k1 k2 k3 gW3
      by_cases hqs : q = s
      · subst hqs
        rw [if_pos rfl] at HT2 r2
        have e2 : IntKind.i64.wrap (B + n) = B + n := IntWalk.i64_in _ (by omega)
        go_wp2
        go_roundw
        case rel => exact ⟨k + 1, A + n, B + n, by omega, rfl, rfl, by go_num, HT1.out.symm, HT2.out.symm, HG3.out⟩
        case measure => simp [intOf]; omega
      · have hq1 : ¬ q.toList = s.toList := fun h => hqs (bytes_ext (by rwa [ByteArray.toList_eq, ByteArray.toList_eq] at h))
        have hq2 : (q.toList == s.toList) = false := by simpa using hq1
        rw [if_neg fun e => hqs e.symm] at HT2 r2
        have HX := Lib.hid hqs
        clear hqs
        go_wp2
        go_roundw
        case rel => exact ⟨k + 1, A + n, B, by omega, rfl, rfl, by go_num, HT1.out.symm, HT2.out.symm, HG3.out⟩
        case measure => simp [intOf]; omega
    · obtain rfl : k = L.length := by omega
      rw [List.take_length] at HA HB
      go_wp2
      go_ret2
      exact ⟨by rw [← HS.out.1, ← HS.out.2, ← HA.out, ← HB.out]; rfl, HG.out⟩
theorem infoRg : (Try.prog.info? 34).map (fun i => (i.zero, i.size, i.bytes)) = some (some (tv tz), 4, 40) := by kernel_rfl
/-- A new slice of these things of the reference's. -/
def RgsPost (w : World) (X : List Tg) (e : Ending) (w' : World) : Prop := ∃ a c, e = .returned (.slice a X.length c) ∧ w'.ownsRow w.heap.size 34 4 (.slice a X.length c) X.length (flatT X) ∧ Chg (fun _ => False) w w'
set_option maxHeartbeats 2000000 in
theorem rthings_any (w : World) (lr : Nat → Nat) (b : Nat) (room share : Int) (T K : List Tg) (ns : List Int) (h : Rd w lr b room share T K ns) (hN : (T ++ K).length ≤ 990) : Calls Try.prog 45 #[.pointer (some ⟨b, 0, none⟩)] w (RgsPost w (T ++ K)) := by
  obtain ⟨ie, hie, ez0, ez1, ez2⟩ := info_parts infoRg
  obtain ⟨lb, sb, a0, c0, L, h, hp, hi⟩ := h
  have c3 := h.c3
  have H := Lib.hid h
  have HP := Lib.hid hp
  have HI := Lib.hid hi
  obtain ⟨X, hX⟩ : ∃ X, X = T ++ K := ⟨_, rfl⟩
  have hlp : (pts T).length + (pts K).length ≤ 998 := by rw [pts_len, pts_len]; rw [List.length_append] at hN; omega
  rw [← hX] at hN ⊢
  have HX := Lib.hid hX
  have lb' := cell_lt c3
  clear h hp hi hX
  go_enter Try.func45, Try.ntmps45
  go_wp2_with fail
  refine (rorder_rf w _ lb (room - room / 5) (pts T) (pts K) H.out.ls hlp).mono ?_; rintro e w1 ⟨a1, c1, rfl, ho, g1⟩
  obtain ⟨ks, hks⟩ : ∃ ks, ks = keysP (pts T ++ pts K) := ⟨_, rfl⟩
  rw [← hks] at ho ⊢
  have HI1 : Hid (IsK w1 a1 c1 ks) := RdS.row ho (nums_one _)
  have HKS : Hid (ks = X.map (·.1)) := by show _ = _; rw [hks, ← pts_append, ← HX.out, keysX]
  have hkl : ks.length = X.length := by rw [HKS.out]; simp
  have HKL := Lib.hid hkl
  have hkl2 : ks.length ≤ 990 := by omega
  have G1 := Lib.hid g1
  clear ho g1 hks hkl c3
  go_wp2_with fail
  go_loopw [3, 14] (fun s i wr => ∃ (k : Nat) (a : Option Addr) (c : Nat), k ≤ ks.length ∧ i = .int .i64 (↑k : Int) ∧ s = .slice a k c ∧ Hid (wr.ownsRow w1.heap.size 34 4 (.slice a k c) k (flatT (X.take k))) ∧ Hid (Chg (fun _ => False) w1 wr)) (fun _ i _ => ks.length - (intOf i).toNat)
  case atStart => exact ⟨0, none, 0, by omega, rfl, rfl, World.ownsRow_nil _ _ _ _, Chg.refl _ _⟩
  case round =>
    obtain ⟨k, a, c, hk, rfl, rfl, HO, HG⟩ := hrel
    by_cases hkt : k < ks.length
    · obtain ⟨⟨x, n, s, nm⟩, ht⟩ : ∃ t, X[k]? = some t := ⟨_, List.getElem?_eq_getElem (by have := HKL.out; omega)⟩
      have hx : ks[k]? = some x := by rw [HKS.out, List.getElem?_map, ht]; rfl
      obtain ⟨g, o, rfl, k0⟩ := (HI1.out.keep HG.out fun _ _ => id).at hx
      have HR := Lib.hid ((H.out.still G1.out).still HG.out)
      have HGX : Hid (getX L x = some (x, n, s, nm)) := by
        show _ = _
        rw [get_perm HP.out HI.out]
        exact (getX_mem (t := (x, n, s, nm)) HI.out.nodup).2 (by rw [← HX.out]; exact List.mem_of_getElem? ht)
      have HST : Hid (flatT (X.take (k + 1)) = flatT (X.take k) ++ flatT [(x, n, s, nm)]) := by
        show _ = _
        rw [List.take_add_one, ht, flatT_append]; rfl
      have gs := HG.out.size
      clear ht hx
      go_wp2_with fail
      refine (rfind_any wr lr b lb sb a0 c0 room share L T K ns x HR.out).mono ?_; rintro e w2 ⟨rfl, g2⟩
      rw [HGX.out]
      simp only [tv, Option.getD_some, Option.isSome_some]
      have HO2 : Hid (w2.ownsRow w1.heap.size 34 4 (.slice a k c) k (flatT (X.take k))) := own_chg HO.out g2 fun _ _ _ _ => id
      have HG2 := Lib.hid (HG.out.trans g2 fun _ _ h => h)
      have gs2 := HG2.out.size
      clear g2 k0
      go_wp2_with (at_builtin; go_loud (refine list_owned rfl _ _ 55 rfl w1.heap.size 34 ie _ 4 40 Try.underlying55 hie ez0 ez1 ez2 rfl (by decide) rfl rfl (own_chg HO2.out (show Chg (fun _ => False) w2 _ from (by repeat (first | with_reducible exact Chg.refl _ _ | with_reducible assumption | with_reducible refine Chg.drewN ?_ _ | with_reducible refine Chg.drew ?_ | with_reducible refine Chg.alloc ?_ _ | with_reducible refine Chg.setCell ?_ (by first | (left; rfl) | (left; left; rfl) | (left; right; rfl) | (left; right; left; rfl) | (left; right; right; rfl) | (right; exact Nat.le_refl _) | (right; simp; done) | (right; omega) | (right; simp at *; omega) | (simp at *; omega)) _ | with_reducible refine Chg.trans ?_ (by with_reducible assumption) (by intro i hi hT; first | exact hT | exact False.elim hT | omega | (simp at *; omega))))) fun _ _ _ _ => id) (flatT_one _) (rd_four (x := x) (y := n) (s := s) (z := nm) (by go_simp) (by go_simp) (by go_simp) (by go_simp)) (by unfold maxLen; omega) (by omega) (by simp; omega) ?_; intro a3 c3 w3 ho3 hg3 hone3; have HO3 : Hid (w3.ownsRow w1.heap.size 34 4 (.slice a3 (k + 1) c3) (k + 1) (flatT (X.take (k + 1)))) := (by show World.ownsRow _ _ _ _ _ _ _; rw [HST.out]; exact ho3); have HG3 : Hid (Chg (fun _ => False) w1 w3) := Chg.grown (HG2.out.trans (show Chg (fun _ => False) w2 _ from (by repeat (first | with_reducible exact Chg.refl _ _ | with_reducible assumption | with_reducible refine Chg.drewN ?_ _ | with_reducible refine Chg.drew ?_ | with_reducible refine Chg.alloc ?_ _ | with_reducible refine Chg.setCell ?_ (by first | (left; rfl) | (left; left; rfl) | (left; right; rfl) | (left; right; left; rfl) | (left; right; right; rfl) | (right; exact Nat.le_refl _) | (right; simp; done) | (right; omega) | (right; simp at *; omega) | (simp at *; omega)) _ | with_reducible refine Chg.trans ?_ (by with_reducible assumption) (by intro i hi hT; first | exact hT | exact False.elim hT | omega | (simp at *; omega))))) fun _ _ h => h) hg3 (fun q hq => .inr (own_below HO.out hq).1); clear ho3 hg3 hone3))
      go_roundw
      case rel => exact ⟨k + 1, a3, c3, by omega, by go_num, rfl, HO3, HG3⟩
      case measure => simp [intOf]; omega
    · obtain rfl : k = ks.length := by omega
      go_wp2
      go_ret
      have h2 := HO.out
      rw [HKL.out, List.take_length] at h2
      exact ⟨a, c, by rw [HKL.out]; rfl, own_mono h2 G1.out.size, G1.out.trans HG.out fun _ _ h => h⟩
set_option maxHeartbeats 1000000 in
theorem rask_any (w : World) (lr : Nat → Nat) (b : Nat) (room share : Int) (T K : List Tg) (ns : List Int) (x nm : Int) (h : Rd w lr b room share T K ns) (hN : (T ++ K).length ≤ 990) (hk : 0 ≤ nm ∧ nm ≤ 18446744073709551615) (hl : ns.length ≤ 10000) :
    Calls Try.prog 16 #[.pointer (some ⟨b, 0, none⟩), .int .u64 nm, .int .i64 x] w fun e w' => e = .returned (.tuple #[]) ∧ ∃ lr', Rd w' lr' b room share (touchX (room - room / 5) T K x).1 (touchX (room - room / 5) T K x).2 (ns ++ [nm]) ∧ Lab w lr lr' w' := by
  obtain ⟨lb, sb, a, c, L, h, hp, hi⟩ := h
  have hlp : (pts T).length + (pts K).length ≤ 998 := by rw [pts_len, pts_len]; rw [List.length_append] at hN; omega
  have c4 := h.c4
  have H := Lib.hid h
  have HP := Lib.hid hp
  have HI := Lib.hid hi
  have h0 : 0 ≤ room - room / 5 := by have := hi.bd; omega
  clear h hp hi
  go_enter Try.func16, Try.ntmps16
  go_wp2_with fail
  refine (Sk.radd_o w _ sb 4 1024 16384 ns.length (tabN ns) (4 * ns.length) (4 * ns.length) nm H.out.sk (by omega) (by omega) hk (by omega) (by omega) (by omega)).mono ?_; rintro e w1 ⟨rfl, hS, g1⟩
  have H1 := Lib.hid (H.out.count hS g1)
  have L1 : Hid (Lab w lr (relab lr w w1 4) w1) := Lab.re (i := 4) (by omega) g1
  have c3 := H1.out.c3
  clear hS g1 c4
  go_wp2_with fail
  refine (rtouch_rf w1 _ lb (room - room / 5) (pts T) (pts K) x H1.out.ls h0 hlp (by rw [← pts_append]; exact HI.out.nodup) (fun t ht => by
    rw [← pts_append] at ht
    obtain ⟨u, hu, rfl⟩ := List.mem_map.1 ht
    exact (HI.out.each u hu).1)).mono ?_; rintro e w2 ⟨rfl, hP⟩
  obtain ⟨E, hE⟩ : ∃ E, E = hasK (pts T ++ pts K) x := ⟨_, rfl⟩
  rw [← hE]
  have HPP := Lib.hid hP
  clear hP hE
  go_wp2
  go_end0
  have hp2 := HPP.out
  rw [touchX_pts] at hp2
  obtain ⟨q1, q2⟩ := H1.out.list hp2
  have hpm := touch_perm (most := room - room / 5) (x := x) HI.out.nodup
  exact ⟨rfl, _, ⟨lb, sb, a, c, L, q1, HP.out.trans hpm, HI.out.perm hpm⟩, L1.out.trans (Lab.re (i := 3) (by omega) q2)⟩
end Go.Proofs.Ytdoepjokaekckaa
namespace Go.Proofs.Ytdoepjokaekckaa
set_option linter.unusedVariables false
open Go.RowKit

def offX (x : Int) (t : Tg) : Bool := t.1 != x
theorem filter_off {X : List Tg} {x : Int} (h : getX X x = none) : X.filter (offX x) = X := by
  rw [List.filter_eq_self]
  intro t ht
  simp only [offX, bne_iff_ne, ne_eq]
  intro e
  have := rgetX_some.2 ⟨t, ht, e⟩
  rw [h] at this; cases this
theorem filter_del {L T K : List Tg} {x : Int} (hp : L.Perm (T ++ K)) (hn : (keysP (pts (T ++ K))).Nodup) : (L.filter (offX x)).Perm (delX T x ++ delX K x) := by
  refine (hp.filter _).trans ?_
  cases h : getX (T ++ K) x with
  | none =>
    rw [filter_off h]
    rw [getX_append] at h
    have hT : getX T x = none := by cases e : getX T x with | none => rfl | some u => rw [e] at h; cases h
    have hK : getX K x = none := by rw [hT] at h; exact h
    rw [delX_none hT, delX_none hK]
  | some t =>
    have p := drop_perm hn h
    refine (p.filter _).trans ?_
    obtain ⟨e1, _, _⟩ := getX_at h
    have hn2 := nodup_permX p hn
    rw [keyT_pts] at hn2
    simp only [keyT, List.map_cons, List.nodup_cons] at hn2
    rw [List.filter_cons, if_neg (by simp [offX, e1]), filter_off]
    refine rgetX_none fun u hu e => hn2.1 ?_
    rw [← e1] at e
    rw [← e]
    exact List.mem_map.2 ⟨u, hu, rfl⟩
theorem filter_less {L : List Tg} {x : Int} : (L.filter (offX x)).length < L.length ↔ (getX L x).isSome = true := by
  rw [List.length_filter_lt_length_iff_exists, rgetX_some]
  constructor
  · rintro ⟨t, ht, h⟩
    exact ⟨t, ht, by simpa [offX] using h⟩
  · rintro ⟨t, ht, h⟩
    exact ⟨t, ht, by simpa [offX] using h⟩
theorem inv_del {room share : Int} {T K : List Tg} {x : Int} (h : DInv room share T K) : DInv room share (delX T x) (delX K x) := by
  cases e : getX (T ++ K) x with
  | none =>
    rw [getX_append] at e
    have hT : getX T x = none := by cases e2 : getX T x with | none => rfl | some u => rw [e2] at e; cases e
    have hK : getX K x = none := by rw [hT] at e; exact e
    rw [delX_none hT, delX_none hK]; exact h
  | some t => exact h.drop e
theorem filter_take {L : List Tg} {k : Nat} {t : Tg} {x : Int} (h : L[k]? = some t) : (L.take (k + 1)).filter (offX x) = (L.take k).filter (offX x) ++ (if t.1 = x then [] else [t]) := by
  rw [List.take_add_one, h]
  show (L.take k ++ [t]).filter _ = _
  rw [List.filter_append]
  by_cases e : t.1 = x
  · rw [if_pos e, List.filter_cons, if_neg (by simp [offX, e])]; rfl
  · rw [if_neg e, List.filter_cons, if_pos (by simp [offX, e])]; rfl
set_option maxHeartbeats 4000000 in
set_option maxRecDepth 4000 in
theorem rdrop_any (w : World) (lr : Nat → Nat) (b : Nat) (room share : Int) (T K : List Tg) (ns : List Int) (x : Int) (h : Rd w lr b room share T K ns) (hN : (T ++ K).length ≤ 990) :
    Calls Try.prog 18 #[.pointer (some ⟨b, 0, none⟩), .int .i64 x] w fun e w' => e = .returned (.bool (getX (T ++ K) x).isSome) ∧ ∃ lr', Rd w' lr' b room share (delX T x) (delX K x) ns ∧ Lab w lr lr' w' := by
  obtain ⟨ie, hie, ez0, ez1, ez2⟩ := info_parts infoRg
  obtain ⟨lb, sb, a0, c0, L, h, hp, hi⟩ := h
  have hlp : (pts T).length + (pts K).length ≤ 998 := by rw [pts_len, pts_len]; rw [List.length_append] at hN; omega
  have hll : L.length ≤ 990 := by rw [hp.length_eq]; exact hN
  obtain ⟨r, hr⟩ : ∃ r, r = (getX (T ++ K) x).isSome := ⟨_, rfl⟩
  rw [← hr]
  have HR : Hid (r = (getX L x).isSome) := by show _ = _; rw [hr, get_perm hp hi]
  have cL := h.c2
  have fz := h.fz
  have H := Lib.hid h
  have HP := Lib.hid hp
  have HI := Lib.hid hi
  have HW := Lib.hid h.row
  have lb' := cell_lt cL
  have FZ := Lib.hid fz
  clear h hp hi hr fz
  go_enter Try.func18, Try.ntmps18
  go_wp2_with fail
  go_loopw [5, 14] (fun s i wr => ∃ (k : Nat) (a2 : Option Addr) (c2 : Nat) (F : List Tg), k ≤ L.length ∧ s = .slice a2 F.length c2 ∧ i = .int .i64 (↑k : Int) ∧ Hid (F = (L.take k).filter (offX x)) ∧ Hid (wr.ownsRow w.heap.size 34 4 (.slice a2 F.length c2) F.length (flatT F)) ∧ Hid (Chg (fun _ => False) w wr)) (fun _ i _ => L.length - (intOf i).toNat)
  case atStart => exact ⟨0, none, 0, [], by omega, rfl, rfl, rfl, World.ownsRow_nil _ _ _ _, Chg.refl _ _⟩
  case round =>
    obtain ⟨k, a2, c2, F, hk, rfl, rfl, HF, HO, HG⟩ := hrel
    have hfl : F.length ≤ k := by rw [HF.out]; exact Nat.le_trans (List.length_filter_le _ _) (by rw [List.length_take]; omega)
    by_cases hkt : k < L.length
    · obtain ⟨⟨y, n, s, nm⟩, ht⟩ : ∃ t, L[k]? = some t := ⟨_, List.getElem?_eq_getElem hkt⟩
      obtain ⟨g, o, rfl, k0, k1, k2, k3⟩ := (HW.out.keep HG.out fun _ _ => id).at ht
      have HT := Lib.hid ht
      clear ht
      go_upto_region 5 with fail
      refine name_region ?_; intro W3 hW3
      have gW3 : Chg (fun _ => False) wr W3 := by subst hW3; exact (by repeat (first | with_reducible exact Chg.refl _ _ | with_reducible assumption | with_reducible refine Chg.drewN ?_ _ | with_reducible refine Chg.drew ?_ | with_reducible refine Chg.alloc ?_ _ | with_reducible refine Chg.setCell ?_ (by first | (left; rfl) | (left; left; rfl) | (left; right; rfl) | (left; right; left; rfl) | (left; right; right; rfl) | (right; exact Nat.le_refl _) | (right; simp; done) | (right; omega) | (right; simp at *; omega) | (simp at *; omega)) _ | with_reducible refine Chg.trans ?_ (by with_reducible assumption) (by intro i hi hT; first | exact hT | exact False.elim hT | omega | (simp at *; omega))))
      have f0 : W3.cell? ⟨wr.heap.size, 0, none⟩ = some (.int .i64 y) := by subst hW3; go_simp
      have f1 : W3.cell? ⟨wr.heap.size, 1, none⟩ = some (.int .i64 n) := by subst hW3; go_simp
      have f2 : W3.cell? ⟨wr.heap.size, 2, none⟩ = some (.string s) := by subst hW3; go_simp
      have f3 : W3.cell? ⟨wr.heap.size, 3, none⟩ = some (.int .u64 nm) := by subst hW3; go_simp
      have HG3 := Lib.hid (HG.out.trans gW3 fun _ _ h => h)
      have HO3 : Hid (W3.ownsRow w.heap.size 34 4 (.slice a2 F.length c2) F.length (flatT F)) := own_chg HO.out gW3 fun _ _ _ _ => id
      have l3 := HG3.out.size
      clear hW3 k0 k1 k2 k3 gW3
      by_cases hyx : y = x
      · have q1 : (y == x) = true := by simpa using hyx
        have HX := Lib.hid hyx
        clear hyx
        go_wp2
        go_roundw
        case rel => exact ⟨k + 1, a2, c2, F, by omega, rfl, by go_num, (by show _ = _; rw [filter_take HT.out, if_pos HX.out, HF.out, List.append_nil]), HO3.out, HG3.out⟩
        case measure => simp [intOf]; omega
      · have q1 : (y == x) = false := by simpa using hyx
        have HX := Lib.hid hyx
        clear hyx
        go_wp2_with (at_builtin; go_loud (refine list_owned rfl _ _ 55 rfl w.heap.size 34 ie _ 4 40 Try.underlying55 hie ez0 ez1 ez2 rfl (by decide) rfl rfl (own_chg HO3.out (show Chg (fun _ => False) W3 _ from (by repeat (first | with_reducible exact Chg.refl _ _ | with_reducible assumption | with_reducible refine Chg.drewN ?_ _ | with_reducible refine Chg.drew ?_ | with_reducible refine Chg.alloc ?_ _ | with_reducible refine Chg.setCell ?_ (by first | (left; rfl) | (left; left; rfl) | (left; right; rfl) | (left; right; left; rfl) | (left; right; right; rfl) | (right; exact Nat.le_refl _) | (right; simp; done) | (right; omega) | (right; simp at *; omega) | (simp at *; omega)) _ | with_reducible refine Chg.trans ?_ (by with_reducible assumption) (by intro i hi hT; first | exact hT | exact False.elim hT | omega | (simp at *; omega))))) fun _ _ _ _ => id) (flatT_one _) (rd_four (x := y) (y := n) (s := s) (z := nm) (by go_simp) (by go_simp) (by go_simp) (by go_simp)) (by unfold maxLen; omega) (by omega) (by simp; omega) ?_; intro a3 c3 w3 ho3 hg3 hone3; have HO4 := Lib.hid ho3; have HG4 : Hid (Chg (fun _ => False) w w3) := Chg.grown (HG3.out.trans (show Chg (fun _ => False) W3 _ from (by repeat (first | with_reducible exact Chg.refl _ _ | with_reducible assumption | with_reducible refine Chg.drewN ?_ _ | with_reducible refine Chg.drew ?_ | with_reducible refine Chg.alloc ?_ _ | with_reducible refine Chg.setCell ?_ (by first | (left; rfl) | (left; left; rfl) | (left; right; rfl) | (left; right; left; rfl) | (left; right; right; rfl) | (right; exact Nat.le_refl _) | (right; simp; done) | (right; omega) | (right; simp at *; omega) | (simp at *; omega)) _ | with_reducible refine Chg.trans ?_ (by with_reducible assumption) (by intro i hi hT; first | exact hT | exact False.elim hT | omega | (simp at *; omega))))) fun _ _ h => h) hg3 (fun q hq => .inr (own_below HO3.out hq).1); clear ho3 hg3 hone3))
        go_roundw
        case rel => exact ⟨k + 1, a3, c3, F ++ [(y, n, s, nm)], by omega, by simp, by go_num, (by show _ = _; rw [filter_take HT.out, if_neg HX.out, HF.out]), (by rw [flatT_append, List.length_append]; exact HO4.out), HG4.out⟩
        case measure => simp [intOf]; omega
    · obtain rfl : k = L.length := by omega
      rw [List.take_length] at HF
      have HR2 : Hid (decide (F.length < L.length) = r) := by
        show _ = _
        rw [HR.out, HF.out]
        have := filter_less (L := L) (x := x)
        cases e : (getX L x).isSome with
        | true =>
          rw [e] at this
          exact decP (by have := this.2 rfl; omega)
        | false =>
          rw [e] at this
          exact decN fun h => by
            have h2 : (List.filter (offX x) L).length < L.length := by omega
            have := this.1 h2
            cases this
      obtain ⟨wa, hwa⟩ : ∃ wa, wa = wr := ⟨_, rfl⟩
      subst hwa
      have d2 := (HG.out.cell lb' id _).trans cL
      have fz : ∀ o, wa.frozen? ⟨b, o, none⟩ = false := fun o => (HG.out.frozen lb' id o).trans (FZ.out o)
      have HA := Lib.hid (H.out.still HG.out)
      have HS := Lib.hid (HA.out.things (RdS.row HO.out (flatT_one _)) fun g hg => by
        obtain ⟨q1, q2⟩ := own_below HO.out hg
        exact ⟨by rcases Nat.eq_zero_or_pos (lr g) with e | e; exact e; exact absurd (H.out.low g (by omega)) (by omega), q2⟩)
      have d3 := HS.out.c3
      go_wp2_with fail
      refine (rdrop_rf _ _ lb (room - room / 5) (pts T) (pts K) x HS.out.ls hlp (by rw [← pts_append]; exact HI.out.nodup)).mono ?_; rintro e w2 ⟨rfl, hP⟩
      obtain ⟨E, hE⟩ : ∃ E, E = hasK (pts T ++ pts K) x := ⟨_, rfl⟩
      rw [← hE]
      have HPP := Lib.hid hP
      clear hP hE
      go_wp2
      go_ret
      have hp2 := HPP.out
      rw [dropX_pts] at hp2
      obtain ⟨q1, q2⟩ := HS.out.list hp2
      refine ⟨by rw [← HR2.out]; rfl, _, ⟨lb, sb, a2, c2, F, q1, by rw [HF.out]; exact filter_del HP.out HI.out.nodup, inv_del HI.out⟩, Lab.trans (l1 := relabT lr (.slice a2 F.length c2)) ⟨fun k hk => ?_, ?_⟩ (Lab.re (i := 3) (by omega) q2)⟩
      · unfold relabT
        rw [if_neg fun e => by have := (own_below HO.out e).1; omega]
      · exact (HG.out.mono fun _ _ h => h.elim).setCell (p := ⟨b, 2, none⟩) (.inl (by show 1 ≤ lr b ∧ lr b ≤ 5; rw [H.out.l1]; omega)) _
end Go.Proofs.Ytdoepjokaekckaa
namespace Go.Proofs.Ytdoepjokaekckaa
set_option linter.unusedVariables false

/-- What a pass of the reference's leaves: the tenant's bytes, all bytes, who goes. -/
structure Qs where
  own : Int
  al : Int
  G : List Tg
def stopQ (any : Bool) (room share n : Int) (p : Qs) : Bool := if any then decide (p.al + n ≤ room) else decide (p.own + n ≤ share)
def skipQ (any : Bool) (s : ByteArray) (hs : List Int) (p : Qs) (x : Tg) : Bool := decide (x.1 ∈ hs) || decide (x.1 ∈ keyT p.G) || (!any && !decide (x.2.2.1 = s))
def takeQ (s : ByteArray) (p : Qs) (x : Tg) : Qs := ⟨if x.2.2.1 = s then p.own - x.2.1 else p.own, p.al - x.2.1, p.G ++ [x]⟩
def qs (any : Bool) (room share n : Int) (s : ByteArray) (hs : List Int) : List Tg → Qs → Qs
  | [], p => p
  | x :: X, p => if stopQ any room share n p = true then p else if skipQ any s hs p x = true then qs any room share n s hs X p else qs any room share n s hs X (takeQ s p x)
section
variable {any : Bool} {room share n : Int} {s : ByteArray} {hs : List Int} {X : List Tg} {p : Qs} {x : Tg}
theorem qs_stop (h : stopQ any room share n p = true) : qs any room share n s hs (x :: X) p = p := by rw [qs, if_pos h]
theorem qs_skip (h : stopQ any room share n p = false) (h2 : skipQ any s hs p x = true) : qs any room share n s hs (x :: X) p = qs any room share n s hs X p := by rw [qs, if_neg (by rw [h]; simp), if_pos h2]
theorem qs_take (h : stopQ any room share n p = false) (h2 : skipQ any s hs p x = false) : qs any room share n s hs (x :: X) p = qs any room share n s hs X (takeQ s p x) := by rw [qs, if_neg (by rw [h]; simp), if_neg (by rw [h2]; simp)]
end
/-- The first pass is the door's. -/
theorem qs_p1 (room share n : Int) (s : ByteArray) (hs : List Int) : ∀ (X : List Tg) (p : Ps), (∀ z, p.Y z = true ↔ z ∈ hs ∨ z ∈ keyT p.G) →
    qs false room share n s hs X ⟨p.own, p.al, p.G⟩ = ⟨(p1 share n s X p).own, (p1 share n s X p).al, (p1 share n s X p).G⟩ ∧ ∀ z, (p1 share n s X p).Y z = true ↔ z ∈ hs ∨ z ∈ keyT (p1 share n s X p).G
  | [], p, h => ⟨rfl, h⟩
  | x :: X, p, h => by
    by_cases h1 : p.own + n ≤ share
    · rw [p1_stop h1, qs_stop (by simp [stopQ, h1])]
      exact ⟨rfl, h⟩
    · have hst : stopQ false room share n ⟨p.own, p.al, p.G⟩ = false := by simp [stopQ]; omega
      by_cases h2 : x.2.2.1 = s ∧ p.Y x.1 = false
      · have hn : ¬ (x.1 ∈ hs ∨ x.1 ∈ keyT p.G) := fun e => by have := (h x.1).2 e; rw [h2.2] at this; cases this
        have hsk : skipQ false s hs ⟨p.own, p.al, p.G⟩ x = false := by
          simp only [not_or] at hn
          simp [skipQ, hn.1, hn.2, h2.1]
        rw [p1_take h1 h2.1 h2.2, qs_take hst hsk]
        have := qs_p1 room share n s hs X ⟨p.own - x.2.1, p.al - x.2.1, fun z => if z = x.1 then true else p.Y z, p.G ++ [x]⟩ (fun z => by
          simp only [keyT, List.map_append, List.map_cons, List.map_nil, List.mem_append, List.mem_singleton]
          by_cases e : z = x.1
          · simp [e]
          · simp only [e, if_false, or_false]; exact h z)
        unfold takeQ
        rw [if_pos h2.1]
        exact this
      · have hsk : skipQ false s hs ⟨p.own, p.al, p.G⟩ x = true := by
          by_cases e : x.2.2.1 = s
          · have hy : p.Y x.1 = true := by cases e2 : p.Y x.1 with | true => rfl | false => exact absurd ⟨e, e2⟩ h2
            rcases (h x.1).1 hy with h3 | h3
            · simp [skipQ, h3]
            · simp [skipQ, h3]
          · simp [skipQ, e]
        rw [p1_pass h1 h2, qs_skip hst hsk]
        exact qs_p1 room share n s hs X p h
/-- A first pass that didn't stop has left none of the tenant's own. -/
theorem p1_all (share n : Int) (s : ByteArray) : ∀ (X : List Tg) (p : Ps), ¬ (p1 share n s X p).own + n ≤ share → ∀ t ∈ X, t.2.2.1 = s → (p1 share n s X p).Y t.1 = true
  | [], p, _, t, ht, _ => by cases ht
  | x :: X, p, h, t, ht, hs => by
    by_cases h1 : p.own + n ≤ share
    · rw [p1_stop h1] at h; exact absurd h1 h
    · by_cases h2 : x.2.2.1 = s ∧ p.Y x.1 = false
      · rw [p1_take h1 h2.1 h2.2] at h ⊢
        rcases List.mem_cons.1 ht with rfl | ht
        · obtain ⟨L, _, _, _, _, _, a6⟩ := p1_spec share n s X ⟨p.own - t.2.1, p.al - t.2.1, fun z => if z = t.1 then true else p.Y z, p.G ++ [t]⟩
          rw [a6]; simp
        · exact p1_all share n s X _ h t ht hs
      · rw [p1_pass h1 h2] at h ⊢
        rcases List.mem_cons.1 ht with rfl | ht
        · obtain ⟨L, _, _, _, _, _, a6⟩ := p1_spec share n s X p
          rw [a6]
          left
          cases e2 : p.Y t.1 with
          | true => rfl
          | false => exact absurd ⟨hs, e2⟩ h2
        · exact p1_all share n s X p h t ht hs
/-- The second pass takes the same; of the tenant's bytes it takes what else is the tenant's. -/
theorem qs_p2 (room share n : Int) (s : ByteArray) (hs : List Int) (G0 : List Tg) : ∀ (X : List Tg) (p : Ps) (o : Int), (keyT X).Nodup → (∀ z, p.Y z = true ↔ z ∈ hs ∨ z ∈ keyT G0) → (∀ z ∈ keyT X, z ∈ keyT p.G ↔ z ∈ keyT G0) → (∀ t ∈ X, 1 ≤ t.2.1) →
    (qs true room share n s hs X ⟨o, p.al, p.G⟩).al = (p2 room n X p).al ∧ (qs true room share n s hs X ⟨o, p.al, p.G⟩).G = (p2 room n X p).G ∧ (qs true room share n s hs X ⟨o, p.al, p.G⟩).own ≤ o ∧ ((∀ t ∈ X, t.2.2.1 = s → p.Y t.1 = true) → (qs true room share n s hs X ⟨o, p.al, p.G⟩).own = o)
  | [], p, o, _, _, _, _ => ⟨rfl, rfl, Int.le_refl _, fun _ => rfl⟩
  | x :: X, p, o, hn, hY, hG, hb => by
    simp only [keyT, List.map_cons, List.nodup_cons] at hn
    by_cases h1 : p.al + n ≤ room
    · rw [p2_stop h1, qs_stop (by simp [stopQ, h1])]
      exact ⟨rfl, rfl, Int.le_refl _, fun _ => rfl⟩
    · have hst : stopQ true room share n ⟨o, p.al, p.G⟩ = false := by simp [stopQ]; omega
      have hx := hG x.1 (by simp [keyT])
      have hb' : ∀ t ∈ X, 1 ≤ t.2.1 := fun t ht => hb t (List.mem_cons_of_mem _ ht)
      cases h2 : p.Y x.1 with
      | true =>
        have hsk : skipQ true s hs ⟨o, p.al, p.G⟩ x = true := by
          rcases (hY x.1).1 h2 with h3 | h3
          · simp [skipQ, h3]
          · have := hx.2 h3
            simp [skipQ, this]
        rw [p2_pass h1 h2, qs_skip hst hsk]
        obtain ⟨a1, a2, a3, a4⟩ := qs_p2 room share n s hs G0 X p o hn.2 hY (fun z hz => hG z (by simp only [keyT, List.map_cons, List.mem_cons]; exact .inr hz)) hb'
        exact ⟨a1, a2, a3, fun h => a4 fun t ht => h t (List.mem_cons_of_mem _ ht)⟩
      | false =>
        have hno : ¬ (x.1 ∈ hs ∨ x.1 ∈ keyT G0) := fun e => by have := (hY x.1).2 e; rw [h2] at this; cases this
        simp only [not_or] at hno
        have hsk : skipQ true s hs ⟨o, p.al, p.G⟩ x = false := by
          have : x.1 ∉ keyT p.G := fun e => hno.2 (hx.1 e)
          simp [skipQ, hno.1, this]
        rw [p2_take h1 h2, qs_take hst hsk]
        have hb1 := hb x (by simp)
        obtain ⟨a1, a2, a3, a4⟩ := qs_p2 room share n s hs G0 X ⟨p.own, p.al - x.2.1, p.Y, p.G ++ [x]⟩ (if x.2.2.1 = s then o - x.2.1 else o) hn.2 hY (fun z hz => by
          have hz' := hG z (by simp only [keyT, List.map_cons, List.mem_cons]; exact .inr hz)
          rw [keyT_append, List.mem_append, hz']
          simp only [keyT, List.map_cons, List.map_nil, List.mem_singleton]
          constructor
          · rintro (h | h)
            · exact h
            · subst h; exact absurd hz hn.1
          · exact .inl) hb'
        refine ⟨a1, a2, ?_, fun h => ?_⟩
        · refine Int.le_trans a3 ?_
          split <;> omega
        · have hns : ¬ x.2.2.1 = s := fun e => by have := h x (by simp) e; rw [h2] at this; cases this
          have := a4 fun t ht => h t (List.mem_cons_of_mem _ ht)
          rw [if_neg hns] at this
          unfold takeQ
          simp only [if_neg hns]
          exact this
/-- The two passes, from the start. -/
def stQ (room share n : Int) (s : ByteArray) (hs : List Int) (X : List Tg) : Nat → Qs
  | 0 => ⟨ofX X s.data.toList, sumX X, []⟩
  | 1 => qs false room share n s hs X ⟨ofX X s.data.toList, sumX X, []⟩
  | _ => qs true room share n s hs X (qs false room share n s hs X ⟨ofX X s.data.toList, sumX X, []⟩)
theorem stQ_room {room share n : Int} {s : ByteArray} {hs : List Int} {X : List Tg} (hn : (keyT X).Nodup) (hb : ∀ t ∈ X, 1 ≤ t.2.1) :
    (stQ room share n s hs X 2).G = (roomP room share X n s hs).G ∧ (decide ((stQ room share n s hs X 2).own + n ≤ share) && decide ((stQ room share n s hs X 2).al + n ≤ room)) = roomB room share n (roomP room share X n s hs) := by
  obtain ⟨e1, hY⟩ := qs_p1 room share n s hs X ⟨ofX X s.data.toList, sumX X, fun z => decide (z ∈ hs), []⟩ (fun z => by simp [keyT])
  simp only at e1
  obtain ⟨q, hq⟩ : ∃ q, q = p1 share n s X ⟨ofX X s.data.toList, sumX X, fun z => decide (z ∈ hs), []⟩ := ⟨_, rfl⟩
  have hr : roomP room share X n s hs = p2 room n X q := by unfold roomP; rw [hq]
  rw [← hq] at e1 hY
  obtain ⟨a1, a2, a3, a4⟩ := qs_p2 room share n s hs q.G X q q.own hn hY (fun _ _ => Iff.rfl) hb
  have hst : stQ room share n s hs X 2 = qs true room share n s hs X ⟨q.own, q.al, q.G⟩ := by
    show qs true room share n s hs X (qs false room share n s hs X ⟨ofX X s.data.toList, sumX X, []⟩) = _
    rw [e1]
  rw [hst, hr]
  refine ⟨a2, ?_⟩
  unfold roomB
  rw [a1, p2_own]
  congr 1
  by_cases h : q.own + n ≤ share
  · rw [decP h, decP (by omega)]
  · rw [a4 fun t ht hs' => by rw [hq]; exact p1_all share n s X _ (by rw [← hq]; exact h) t ht hs']
end Go.Proofs.Ytdoepjokaekckaa
