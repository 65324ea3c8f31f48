/- The reference's sketch: the walks of its functions. -/
import Derived.Test.YtmkgmofkfgfdhaaSt
namespace Go.Proofs.Ytmkgmofkfgfdhaa
set_option linter.unusedVariables false
open Go.RowKit

theorem mx_bd (x : Int) : (0 ≤ mx1 x ∧ mx1 x ≤ 18446744073709551615) ∧ (0 ≤ mx2 x ∧ mx2 x ≤ 18446744073709551615) := ⟨bounds_u64 (wf_wrap _ _), bounds_u64 (wf_wrap _ _)⟩
theorem mx0_bd (key r : Int) : 0 ≤ mx0 key r ∧ mx0 key r ≤ 18446744073709551615 := bounds_u64 (wf_bits _ _ _ _)

set_option maxHeartbeats 400000 in
theorem rmix_any (key : Int) (r W : Nat) (w : World) (hr : r ≤ 8) (hW : 1 ≤ W ∧ W ≤ 65536) :
    Calls Try.prog 23 #[.int .u64 key, .int .i64 r, .int .i64 W] w fun e w' => e = .returned (.int .i64 (mixF key r W)) ∧ w = w' := by
  have hr' : (r : Int) ≤ 8 := by omega
  have hb := mixU_bd key r
  have b0 := mx0_bd key r
  have b1 := (mx_bd (mx0 key r)).1
  have b2 := (mx_bd (mx1 (mx0 key r))).2
  have hq : mixU key r % (W : Int) = (mixF key r W : Int) := by
    unfold mixF
    have : (((mixU key r).toNat % W : Nat) : Int) = ((mixU key r).toNat : Int) % (W : Int) := by simp
    rw [this, Int.toNat_of_nonneg hb.1]
  have hq1 := mixF_lt key r W (by omega)
  have hW0 : 0 < (W : Int) := by omega
  have hW1 : (W : Int) ≤ 65536 := by omega
  have e0 : bits .xor .u64 key (IntKind.u64.wrap (((r : Int) + 1) * 11400714819323198485)) = mx0 key r := rfl
  have e1 : IntKind.u64.wrap (bits .xor .u64 (mx0 key r) (mx0 key r / 1073741824) * 13787848793156543929) = mx1 (mx0 key r) := rfl
  have e2 : IntKind.u64.wrap (bits .xor .u64 (mx1 (mx0 key r)) (mx1 (mx0 key r) / 134217728) * 10723151780598845931) = mx2 (mx1 (mx0 key r)) := rfl
  have e3 : bits .xor .u64 (mx2 (mx1 (mx0 key r))) (mx2 (mx1 (mx0 key r)) / 2147483648) = mixU key r := rfl
  go_enter Try.func23, Try.ntmps23
  go_wp2
  go_ret
  exact ⟨rfl, rfl⟩

/-- The reference's lists: the count of a cell. -/
def lk (cs ns : List Int) (c : Int) : Int := ns.getD (cs.idxOf c) 0
def ixI (cs : List Int) (c : Int) : Int := if c ∈ cs then (cs.idxOf c : Int) else -1
theorem idx_first {cs : List Int} {c : Int} {j : Nat} (h : c ∉ cs.take j) (hj : cs[j]? = some c) : cs.idxOf c = j := by
  have hl := (List.getElem?_eq_some_iff.1 hj).1
  have he := (List.getElem?_eq_some_iff.1 hj).2
  have e : cs = cs.take j ++ c :: cs.drop (j + 1) := by
    conv => lhs; rw [← List.take_append_drop j cs, List.drop_eq_getElem_cons hl, he]
  rw [e, List.idxOf_append, if_neg h]
  simp
  omega
theorem idx_mem {cs : List Int} {c : Int} (h : c ∈ cs) : cs.idxOf c < cs.length ∧ cs[cs.idxOf c]? = some c := by
  have hl := List.idxOf_lt_length_iff.2 h
  exact ⟨hl, by rw [List.getElem?_eq_getElem hl]; simp⟩
theorem idx_out {cs : List Int} {c : Int} (h : c ∉ cs) : cs.idxOf c = cs.length := List.idxOf_eq_length h
theorem lk_at {cs ns : List Int} {c t : Int} (h : ns[cs.idxOf c]? = some t) : lk cs ns c = t := by unfold lk; rw [List.getD, h]; rfl
theorem lk_out {cs ns : List Int} {c : Int} (hl : ns.length = cs.length) (h : c ∉ cs) : lk cs ns c = 0 := by unfold lk; rw [idx_out h, ← hl]; simp
theorem lk_hit {cs ns : List Int} {c : Int} (hl : ns.length = cs.length) (h : c ∈ cs) (u c' : Int) : lk cs (ns.set (cs.idxOf c) u) c' = if c' = c then u else lk cs ns c' := by
  have hc := idx_mem h
  unfold lk
  by_cases e : c' = c
  · subst e
    rw [if_pos rfl, List.getD, List.getElem?_set_self (by omega)]
    rfl
  · rw [if_neg e, List.getD, List.getD, List.getElem?_set_ne]
    intro e2
    by_cases h' : c' ∈ cs
    · have hc' := idx_mem h'
      rw [← e2, hc.2] at hc'
      exact e (Option.some.inj hc'.2).symm
    · rw [idx_out h'] at e2; omega
theorem lk_new {cs ns : List Int} {c : Int} (hl : ns.length = cs.length) (h : c ∉ cs) (u c' : Int) : lk (cs ++ [c]) (ns ++ [u]) c' = if c' = c then u else lk cs ns c' := by
  unfold lk
  by_cases e : c' = c
  · subst e
    rw [if_pos rfl, List.idxOf_append, if_neg h, List.getD]
    simp [← hl]
  · rw [if_neg e, List.idxOf_append]
    by_cases h' : c' ∈ cs
    · have hc' := idx_mem h'
      rw [if_pos h', List.getD, List.getD, List.getElem?_append_left (by omega)]
    · have e0 : ([c] : List Int).idxOf c' = 1 := by
        rw [idx_out (by simpa using e)]; rfl
      rw [if_neg h', idx_out h', e0, List.getD, List.getD, List.getElem?_eq_none (by simp; omega), List.getElem?_eq_none (by omega)]
theorem lk_half (cs ns : List Int) (c : Int) : lk cs (ns.map fun t => t / 2) c = lk cs ns c / 2 := by
  unfold lk
  rw [List.getD, List.getD, List.getElem?_map]
  cases ns[cs.idxOf c]? <;> simp

/-- The reference's sketch in block p. -/
structure Rf (w : World) (p n W : Nat) (after adds : Int) (kv nv : Value) (cs ns : List Int) (B : Nat) : Prop where
  c0 : w.cell? ⟨p, 0, none⟩ = some (.int .i64 n)
  c1 : w.cell? ⟨p, 1, none⟩ = some (.int .i64 W)
  c2 : w.cell? ⟨p, 2, none⟩ = some (.int .i64 after)
  c3 : w.cell? ⟨p, 3, none⟩ = some (.int .i64 adds)
  c4 : w.cell? ⟨p, 4, none⟩ = some kv
  c5 : w.cell? ⟨p, 5, none⟩ = some nv
  fz : ∀ o, w.frozen? ⟨p, o, none⟩ = false
  ko : w.ownsRow B 3 1 kv cs.length (cs.map (.int .i64))
  no : w.ownsRow B 3 1 nv ns.length (ns.map (.int .i64))
  ne : ∀ c, kv.ownBlock = some c → nv.ownBlock ≠ some c
  pb : p < B ∧ B ≤ w.heap.size

section
variable {w w' w1 : World} {p n W : Nat} {after adds : Int} {kv nv : Value} {cs ns : List Int} {B : Nat}
theorem Rf.chg {S : Nat → Prop} (h : Rf w p n W after adds kv nv cs ns B) (c : Chg S w w') (hp : ¬ S p) (hB : ∀ k, B ≤ k → ¬ S k) : Rf w' p n W after adds kv nv cs ns B := by
  have lp := cell_lt h.c0
  exact ⟨(c.cell lp hp 0).trans h.c0, (c.cell lp hp 1).trans h.c1, (c.cell lp hp 2).trans h.c2, (c.cell lp hp 3).trans h.c3, (c.cell lp hp 4).trans h.c4, (c.cell lp hp 5).trans h.c5, fun o => (c.frozen lp hp o).trans (h.fz o),
    own_chg h.ko c (fun g hg _ _ => hB g hg), own_chg h.no c (fun g hg _ _ => hB g hg), h.ne, h.pb.1, Nat.le_trans h.pb.2 c.size⟩
theorem Rf.setAdds (h : Rf w p n W after adds kv nv cs ns B) (v : Int) : Rf (w.setCell ⟨p, 3, none⟩ (.int .i64 v)) p n W after v kv nv cs ns B := by
  have hp := h.pb
  have nk : ∀ v : Value, ∀ {k : Nat} {l : List Value}, w.ownsRow B 3 1 v k l → (w.setCell ⟨p, 3, none⟩ (.int .i64 adds)).ownsRow B 3 1 v k l := fun v _ _ ho => own_set ho (own_ne ho hp.1) _
  refine ⟨?_, ?_, ?_, ?_, ?_, ?_, ?_, own_set h.ko (own_ne h.ko hp.1) _, own_set h.no (own_ne h.no hp.1) _, h.ne, hp.1, by simp [World.setCell]; exact hp.2⟩
  · rw [cell_other (by simp)]; exact h.c0
  · rw [cell_other (by simp)]; exact h.c1
  · rw [cell_other (by simp)]; exact h.c2
  · exact cell_same h.c3
  · rw [cell_other (by simp)]; exact h.c4
  · rw [cell_other (by simp)]; exact h.c5
  · intro o; rw [World.frozen?_setCell]; exact h.fz o
theorem Rf.hit {g cap m : Nat} (h : Rf w p n W after adds kv (.slice (some ⟨g, 0, none⟩) m cap) cs ns B) {q : Nat} (hq : q < ns.length) (u : Int) : Rf (w.setCell ⟨g, q, none⟩ (.int .i64 u)) p n W after adds kv (.slice (some ⟨g, 0, none⟩) m cap) cs (ns.set q u) B := by
  have hg := own_below h.no (c := g) rfl
  have hp := h.pb
  have hm : m = ns.length := by obtain ⟨a, c, e, _⟩ := own_form h.no; cases e; rfl
  subst hm
  have hne : ∀ o : Nat, (⟨g, q, none⟩ : Addr) ≠ ⟨p, o, none⟩ := fun o e => by injection e; omega
  refine ⟨?_, ?_, ?_, ?_, ?_, ?_, ?_, own_set h.ko (fun e => h.ne g e.symm rfl) _, ?_, h.ne, hp.1, by simp [World.setCell]; exact hp.2⟩
  · rw [cell_other (hne _)]; exact h.c0
  · rw [cell_other (hne _)]; exact h.c1
  · rw [cell_other (hne _)]; exact h.c2
  · rw [cell_other (hne _)]; exact h.c3
  · rw [cell_other (hne _)]; exact h.c4
  · rw [cell_other (hne _)]; exact h.c5
  · intro o; rw [World.frozen?_setCell]; exact h.fz o
  · rw [List.length_set, ← put_map]; exact own_put h.no (by simpa using hq) _
theorem Rf.grown {row : Option Nat} {o : Obj} (h : Rf w p n W after adds kv nv cs ns B) (hg : (w.alloc o).grownBy w1 row) (hr : some p ≠ row) : (∀ k, w1.cell? ⟨p, k, none⟩ = w.cell? ⟨p, k, none⟩) ∧ (∀ k, w1.frozen? ⟨p, k, none⟩ = false) ∧ w.heap.size + 1 ≤ w1.heap.size := by
  have lp := cell_lt h.c0
  have s := hg.size
  simp at s
  have c := (Chg.refl (fun _ => False) w).alloc o
  refine ⟨fun k => ?_, fun k => ?_, s⟩
  · rw [hg.cell_far _ (by simp; omega) hr]; exact c.cell lp id k
  · rw [hg.frozen_far _ (by simp; omega) hr, c.frozen lp id k]; exact h.fz k
theorem Rf.push4 {o : Obj} {g cap : Nat} {x : Int} (h : Rf w p n W after adds kv nv cs ns B) (hg : (w.alloc o).grownBy w1 kv.ownBlock)
    (ho : w1.ownsRow B 3 1 (.slice (some ⟨g, 0, none⟩) (cs.length + 1) cap) (cs.length + 1) (cs.map (.int .i64) ++ [.int .i64 x])) (hat : kv.ownBlock = some g ∨ g = w.heap.size + 1) :
    Rf (w1.setCell ⟨p, 4, none⟩ (.slice (some ⟨g, 0, none⟩) (cs.length + 1) cap)) p n W after adds (.slice (some ⟨g, 0, none⟩) (cs.length + 1) cap) nv (cs ++ [x]) ns B := by
  have hp := h.pb
  obtain ⟨hc, hf, hs⟩ := h.grown hg (own_ne h.ko hp.1)
  have hn : w1.ownsRow B 3 1 nv ns.length (ns.map (.int .i64)) := (h.no.alloc o).kept hg (blocks_apart h.ne)
  refine ⟨?_, ?_, ?_, ?_, ?_, ?_, ?_, ?_, own_set hn (own_ne hn hp.1) _, ?_, hp.1, by simp [World.setCell]; omega⟩
  · rw [cell_other (by simp), hc]; exact h.c0
  · rw [cell_other (by simp), hc]; exact h.c1
  · rw [cell_other (by simp), hc]; exact h.c2
  · rw [cell_other (by simp), hc]; exact h.c3
  · exact cell_same (by rw [hc]; exact h.c4)
  · rw [cell_other (by simp), hc]; exact h.c5
  · intro o; rw [World.frozen?_setCell]; exact hf o
  · rw [List.length_append, ← map_snoc]; exact own_set ho (own_ne ho hp.1) _
  · intro c e
    have : c = g := by simpa [Value.ownBlock] using e.symm
    subst this
    rcases hat with e | e
    · exact h.ne c e
    · intro e2; have := own_below h.no e2; omega
theorem Rf.push5 {o : Obj} {g cap : Nat} {x : Int} (h : Rf w p n W after adds kv nv cs ns B) (hg : (w.alloc o).grownBy w1 nv.ownBlock)
    (ho : w1.ownsRow B 3 1 (.slice (some ⟨g, 0, none⟩) (ns.length + 1) cap) (ns.length + 1) (ns.map (.int .i64) ++ [.int .i64 x])) (hat : nv.ownBlock = some g ∨ g = w.heap.size + 1) :
    Rf (w1.setCell ⟨p, 5, none⟩ (.slice (some ⟨g, 0, none⟩) (ns.length + 1) cap)) p n W after adds kv (.slice (some ⟨g, 0, none⟩) (ns.length + 1) cap) cs (ns ++ [x]) B := by
  have hp := h.pb
  obtain ⟨hc, hf, hs⟩ := h.grown hg (own_ne h.no hp.1)
  have hn : w1.ownsRow B 3 1 kv cs.length (cs.map (.int .i64)) := (h.ko.alloc o).kept hg (blocks_apart (fun c e e2 => h.ne c e2 e))
  refine ⟨?_, ?_, ?_, ?_, ?_, ?_, ?_, own_set hn (own_ne hn hp.1) _, ?_, ?_, hp.1, by simp [World.setCell]; omega⟩
  · rw [cell_other (by simp), hc]; exact h.c0
  · rw [cell_other (by simp), hc]; exact h.c1
  · rw [cell_other (by simp), hc]; exact h.c2
  · rw [cell_other (by simp), hc]; exact h.c3
  · rw [cell_other (by simp), hc]; exact h.c4
  · exact cell_same (by rw [hc]; exact h.c5)
  · intro o; rw [World.frozen?_setCell]; exact hf o
  · rw [List.length_append, ← map_snoc]; exact own_set ho (own_ne ho hp.1) _
  · intro c e
    simp [Value.ownBlock]
    intro e3
    subst e3
    rcases hat with e2 | e2
    · exact h.ne g e e2
    · have := own_below h.ko e; omega
end
end Go.Proofs.Ytmkgmofkfgfdhaa
