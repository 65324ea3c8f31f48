/- The map of extents: taking. (Printed by gentake.py.) -/
import Derived.Test.YtheiodnckjmieaaEv
namespace Go.Proofs.Ytheiodnckjmieaa
set_option linter.unusedVariables false
open Go.RowKit

theorem infoExt : (Try.prog.info? 44).map (fun i => (i.zero, i.size, i.bytes)) = some (some (.agg #[.int .i64 0, .int .i64 0]), 2, 16) := by kernel_rfl
theorem rd_two {w : World} {q : Nat} (hq : w.heap.size = q) (x y : Int) (t : TypeId) : RdS (w.alloc (.cells #[.int .i64 x, .int .i64 y] t)) 2 (some ⟨q, 0, none⟩) 1 1 (flat [(x, y)]) := by
  subst hq
  refine ⟨rfl, ⟨Nat.le_refl _, by unfold maxLen; omega⟩, (fun e => nomatch e), flat_one _, fun j u hj => ?_, fun x hx => by injection hx with hx; exact ⟨_, _, hx.symm⟩⟩
  have := World.news_of_block (cs := #[.int .i64 x, .int .i64 y]) (t := t) (fr := (0, 0)) (heap_alloc_new w _) j u hj
  exact ⟨w.heap.size, 0, rfl, by rw [Addr.add_lit] at this; exact this⟩
theorem RdS.drew {w : World} {sz n cap : Nat} {a : Option Addr} {xs : List Value} (h : RdS w sz a n cap xs) : RdS w.drew sz a n cap xs := ⟨h.1, h.2, h.3, h.4, h.5, h.6⟩
theorem RdS.cast {w : World} {sz n cap m : Nat} {a : Option Addr} {xs : List Value} (h : RdS w sz a n cap xs) (e : n = m) : RdS w sz a m cap xs := e ▸ h
theorem IsE.rest {w : World} {g o c : Nat} {A R : List Ext} (h : IsE w (some ⟨g, o, none⟩) c (A ++ R)) (k : Nat) (hk : A.length = k) : RdS w.drew 2 (if c = k then some ⟨g, o, none⟩ else some ⟨g, o + k * 2, none⟩) R.length (c - k) (flat R) := by
  subst hk
  have h2 := (h.drop A.length (by simp)).drew
  rw [List.drop_left, List.length_append, Nat.add_sub_cancel_left] at h2
  have e : (if c = A.length then some (⟨g, o, none⟩ : Addr) else Option.map (fun x : Addr => x.add (A.length * 2)) (some (⟨g, o, none⟩ : Addr))) = (if c = A.length then some (⟨g, o, none⟩ : Addr) else some ⟨g, o + A.length * 2, none⟩) := by
    simp only [Option.map_some, Addr.add_lit]
  rw [e] at h2
  exact h2
theorem IsE.init {w : World} {g o c : Nat} {A R : List Ext} (h : IsE w (some ⟨g, o, none⟩) c (A ++ R)) : RdS w 2 (some ⟨g, o, none⟩) A.length A.length (flat A) := by
  have := h.take A.length (by simp) _ (.inl rfl)
  rw [List.take_left] at this
  exact this
theorem RdS.row {w : World} {B sz n cap : Nat} {e : TypeId} {a : Option Addr} {xs : List Value} (h : w.ownsRow B e sz (.slice a n cap) n xs) (h1 : ∀ u ∈ xs, u.oneCell' = true) : RdS w sz a n cap xs := by
  obtain ⟨a', cap', e1, h2⟩ := RdS.own h h1
  injection e1 with e2 _ e3
  subst e2 e3
  exact h2
theorem own_ne2 {w : World} {B : Nat} {e : TypeId} {sz : Nat} {v : Value} {n : Nat} {xs : List Value} (h : w.ownsRow B e sz v n xs) {b : Nat} (hb : b < B) : some b ≠ v.ownBlock := fun e => by
  have := own_below h e.symm
  omega

set_option maxHeartbeats 1000000 in
theorem take_any (w : World) (S : Nat → Prop) (b : Nat) (base sec : Int) (a : Option Addr) (c : Nat) (A : List Ext) (f : Ext) (R : List Ext) (e : Ext) (h : Em w S b base sec a c (A ++ f :: R)) (h1 : f.1 ≤ e.1) (h2 : 1 ≤ e.2) (h3 : e.1 + e.2 ≤ f.1 + f.2) :
    Calls Try.prog 29 #[.pointer (some ⟨b, 0, none⟩), .int .i64 (A.length : Int), .agg #[.int .i64 e.1, .int .i64 e.2]] w fun e' w' => e' = .returned (.tuple #[]) ∧ (∃ a' c', Em w' S b base sec a' c' (A ++ (leftF f e ++ R))) ∧ Chg (fun k => k = b) w w' := by
  obtain ⟨ie, hie, ez0, ez1, ez2⟩ := info_parts infoExt
  have few := h.few
  have lb := cell_lt h.c0
  have hl : (A ++ f :: R)[A.length]? = some f := by simp
  obtain ⟨g, o, rfl, lg, k0, k1⟩ := h.rd.at hl
  have hb := h.each (List.mem_of_getElem? hl)
  have d2 := h.c2
  have fz := h.fz
  have H := Lib.hid h
  have hlen : A.length + R.length + 1 = (A ++ f :: R).length := by simp; omega
  have len : ((A ++ f :: R).length : Int) = A.length + R.length + 1 := by omega
  have hc : A.length + (R.length + 1) ≤ c ∧ c ≤ 9223372036854775807 := by have := h.rd.le; unfold maxLen at this; omega
  clear h hl
  by_cases p1 : f.1 < e.1
  · by_cases p2 : e.1 + e.2 < f.1 + f.2
    · go_enter Try.func29, Try.ntmps29
      go_wp2_with (first
        | (at_builtin; refine list_owned rfl _ _ 36 rfl (w.heap.size + 2) 44 ie _ 2 16 Try.underlying36 hie ez0 ez1 ez2 rfl (by decide) rfl rfl (World.ownsRow_nil _ _ _ _) (by simp) (rd_two (by simp) _ _ _) (by unfold maxLen; omega) (by omega) (by simp) ?_; intro a1 c1 w1 ho1 hg1 hone1; have s1 := hg1.size; simp at s1; have t1 : w.heap.size < w1.heap.size := (by omega); have t2 : w.heap.size + 1 < w1.heap.size := (by omega); have j0 : w1.cell? ⟨w.heap.size, 0, none⟩ = some (.int .i64 e.1) := (by rw [hg1.cell_far _ (by simp <;> omega) (by simp [Value.ownBlock])]; go_simp); have j1 : w1.cell? ⟨w.heap.size, 1, none⟩ = some (.int .i64 e.2) := (by rw [hg1.cell_far _ (by simp <;> omega) (by simp [Value.ownBlock])]; go_simp); have j2 : w1.cell? ⟨w.heap.size + 1, 0, none⟩ = some (.int .i64 f.1) := (by rw [hg1.cell_far _ (by simp <;> omega) (by simp [Value.ownBlock])]; go_simp); have j3 : w1.cell? ⟨w.heap.size + 1, 1, none⟩ = some (.int .i64 f.2) := (by rw [hg1.cell_far _ (by simp <;> omega) (by simp [Value.ownBlock])]; go_simp); have j4 : Chg (fun k => w.heap.size ≤ k) w w1 := Chg.grown (by repeat (first | with_reducible exact Chg.refl _ _ | with_reducible assumption | with_reducible refine Chg.drewN ?_ _ | with_reducible refine Chg.drew ?_ | with_reducible refine Chg.alloc ?_ _ | with_reducible refine Chg.setCell ?_ (by first | (left; rfl) | (right; exact Nat.le_refl _) | (right; simp; done) | (right; omega) | (right; simp at *; omega) | (simp at *; omega)) _ | with_reducible refine Chg.trans ?_ (by with_reducible assumption) (by intro i hi hT; first | exact hT | exact False.elim hT | omega | (simp at *; omega)))) hg1 (by simp [Value.ownBlock]))
        | (at_builtin; refine list_owned rfl _ _ 36 rfl (w.heap.size + 2) 44 ie _ 2 16 Try.underlying36 hie ez0 ez1 ez2 rfl (by decide) rfl rfl (ho1.alloc _) hone1 (rd_two rfl _ _ _) (by unfold maxLen; omega) (by omega) (by simp <;> omega) ?_; intro a2 c2 w2 ho2 hg2 hone2; have s2 := hg2.size; simp at s2; have i4 : Chg (fun k => w.heap.size ≤ k) w w2 := Chg.grown (by repeat (first | with_reducible exact Chg.refl _ _ | with_reducible assumption | with_reducible refine Chg.drewN ?_ _ | with_reducible refine Chg.drew ?_ | with_reducible refine Chg.alloc ?_ _ | with_reducible refine Chg.setCell ?_ (by first | (left; rfl) | (right; exact Nat.le_refl _) | (right; simp; done) | (right; omega) | (right; simp at *; omega) | (simp at *; omega)) _ | with_reducible refine Chg.trans ?_ (by with_reducible assumption) (by intro i hi hT; first | exact hT | exact False.elim hT | omega | (simp at *; omega)))) hg2 (fun k hk => .inl (by show w.heap.size ≤ k; have := (own_below ho1 hk).1; omega))))
      have u2 : w2.cell? ⟨b, 2, none⟩ = some (.slice (some ⟨g, o, none⟩) (A ++ f :: R).length c) := (i4.cell lb (by show ¬ w.heap.size ≤ b; omega) 2).trans d2
      have uf : ∀ o, w2.frozen? ⟨b, o, none⟩ = false := fun o => (i4.frozen lb (by show ¬ w.heap.size ≤ b; omega) o).trans (fz o)
      have lb2 : b < w2.heap.size := by have := i4.size; omega
      have HO : Hid (w2.ownsRow (w.heap.size + 2) 44 2 (.slice a2 2 c2) 2 (flat (leftF f e))) := by
        have e1 : flat (leftF f e) = [] ++ flat [(f.1, e.1 - f.1)] ++ flat [(e.1 + e.2, f.1 + f.2 - (e.1 + e.2))] := by simp [leftF, p1, p2, flat]
        show w2.ownsRow _ _ _ _ _ _
        rw [e1]; exact ho2
      have hK : (leftF f e).length = 2 := by simp [leftF, p1, p2]
      have H2 := H.out.chg i4 (fun k hk hk2 => absurd hk2 (by omega)) (by omega)
      have RX := Lib.hid (IsE.rest (A := A ++ [f]) (R := R) (by rw [List.append_assoc]; exact H2.rd) (A.length + 1) (by simp))
      have RI := Lib.hid (IsE.init H2.rd)
      clear H2
      have i3 : w.heap.size + 2 ≤ w2.heap.size := by omega
      clear ho1 hg1 hone1 s1 t1 t2 j0 j1 j2 j3 k0 k1 j4 ho2 hg2 hone2 s2
      have l3 : (A.length : Int) ≤ c := by omega
      have l4 : (0 : Int) ≤ A.length := by omega
      have l5 : (A.length : Int) + 1 ≤ A.length + (R.length + 1) := by omega
      have l6 : (0 : Int) ≤ A.length + 1 := by omega
      have l7 : IntKind.i64.wrap ((A.length : Int) + 1) = A.length + 1 := IntWalk.i64_in _ (by omega)
      go_region_law (first
        | (refine step_owned (by rfl) _ _ 36 (by rfl) (w.heap.size + 2) 44 ie _ 2 16 Try.underlying36 hie ez0 ez1 ez2 rfl (by decide) (by rfl) (by rfl) HO.out.drew (flat_one _) (by exact RX.out.cast (by omega)) (by unfold maxLen; omega) (by omega) (by simp; omega) ?_; intro a3 c3 w3 ho3 hg3 hone3; have s3 := hg3.size; simp at s3; have v3 : w3.cell? ⟨b, 2, none⟩ = some (.slice (some ⟨g, o, none⟩) (A.length + (R.length + 1)) c) := (by rw [hg3.cell_far _ (by simp; omega) (own_ne2 HO.out (by simp; omega))]; go_simp); have vf3 : w3.frozen? ⟨b, 2, none⟩ = false := (by rw [hg3.frozen_far _ (by simp; omega) (own_ne2 HO.out (by simp; omega))]; go_simp); have j3 : Chg (fun k => w.heap.size ≤ k) w w3 := Chg.grown i4.drew hg3 (fun k hk => .inl (by show w.heap.size ≤ k; have := (own_below HO.out hk).1; omega)); have RJ := Lib.hid (RdS.block RI.out (S := fun k => w.heap.size ≤ k) (Chg.grown (Chg.drew (Chg.refl _ _)) hg3 (fun k hk => .inl (by show w.heap.size ≤ k; have := (own_below HO.out hk).1; omega))) (by intro k hk; simp [Value.ownBlock] at hk; show ¬ w.heap.size ≤ k; omega)))
        | (refine step_full (by rfl) _ _ 36 (by rfl) 44 ie _ 2 16 Try.underlying36 hie ez0 ez1 ez2 rfl (by decide) (by rfl) (by rfl) RJ.out (RdS.row ho3 hone3) (by unfold maxLen; omega) (by omega) ?_; intro a4 c4 w4 rd4 hg4 hown4; have hN : A.length + (2 + (A.length + (R.length + 1) - (A.length + 1))) = (A ++ (leftF f e ++ R)).length := (by rw [List.length_append, List.length_append, hK] <;> omega); rw [hN] at rd4 hown4 ⊢; have s4 := hg4.size; have v4 : w4.cell? ⟨b, 2, none⟩ = some (.slice (some ⟨g, o, none⟩) (A.length + (R.length + 1)) c) := (by rw [hg4.cell_far _ (by simp; omega) (by simp)]; exact v3); have vf4 : w4.frozen? ⟨b, 2, none⟩ = false := (by rw [hg4.frozen_far _ (by simp; omega) (by simp)]; exact vf3); have j4 : Chg (fun k => w.heap.size ≤ k) w w4 := Chg.grown j3 hg4 (by simp)))
      all_goals go_wp2
      all_goals go_end0
      all_goals
        have hp := H.out.put (a' := a4) (c' := c4) j4 (fun k hk => by omega) (by show RdS _ _ _ _ _ _; rw [flat_append, flat_append]; exact rd4) (fun q hq => by
          rcases hown4 q hq with h | h
          · exact .inl h
          · right; exact ⟨by omega, h.2⟩) (take_norm H.out.norm h1 h2 h3).1
        exact ⟨rfl, ⟨_, _, by simpa only [List.length_append, hK, Nat.zero_add] using hp.1⟩, by simpa only [List.length_append, hK, Nat.zero_add] using hp.2⟩
    · have q2 : decide (e.1 + e.2 < f.1 + f.2) = false := by simp; omega
      go_enter Try.func29, Try.ntmps29
      go_wp2_with (first
        | (at_builtin; refine list_owned rfl _ _ 36 rfl (w.heap.size + 2) 44 ie _ 2 16 Try.underlying36 hie ez0 ez1 ez2 rfl (by decide) rfl rfl (World.ownsRow_nil _ _ _ _) (by simp) (rd_two (by simp) _ _ _) (by unfold maxLen; omega) (by omega) (by simp) ?_; intro a1 c1 w1 ho1 hg1 hone1; have s1 := hg1.size; simp at s1; have t1 : w.heap.size < w1.heap.size := (by omega); have t2 : w.heap.size + 1 < w1.heap.size := (by omega); have j0 : w1.cell? ⟨w.heap.size, 0, none⟩ = some (.int .i64 e.1) := (by rw [hg1.cell_far _ (by simp <;> omega) (by simp [Value.ownBlock])]; go_simp); have j1 : w1.cell? ⟨w.heap.size, 1, none⟩ = some (.int .i64 e.2) := (by rw [hg1.cell_far _ (by simp <;> omega) (by simp [Value.ownBlock])]; go_simp); have j2 : w1.cell? ⟨w.heap.size + 1, 0, none⟩ = some (.int .i64 f.1) := (by rw [hg1.cell_far _ (by simp <;> omega) (by simp [Value.ownBlock])]; go_simp); have j3 : w1.cell? ⟨w.heap.size + 1, 1, none⟩ = some (.int .i64 f.2) := (by rw [hg1.cell_far _ (by simp <;> omega) (by simp [Value.ownBlock])]; go_simp); have j4 : Chg (fun k => w.heap.size ≤ k) w w1 := Chg.grown (by repeat (first | with_reducible exact Chg.refl _ _ | with_reducible assumption | with_reducible refine Chg.drewN ?_ _ | with_reducible refine Chg.drew ?_ | with_reducible refine Chg.alloc ?_ _ | with_reducible refine Chg.setCell ?_ (by first | (left; rfl) | (right; exact Nat.le_refl _) | (right; simp; done) | (right; omega) | (right; simp at *; omega) | (simp at *; omega)) _ | with_reducible refine Chg.trans ?_ (by with_reducible assumption) (by intro i hi hT; first | exact hT | exact False.elim hT | omega | (simp at *; omega)))) hg1 (by simp [Value.ownBlock]))
        | fail)
      have u2 : w1.cell? ⟨b, 2, none⟩ = some (.slice (some ⟨g, o, none⟩) (A ++ f :: R).length c) := (j4.cell lb (by show ¬ w.heap.size ≤ b; omega) 2).trans d2
      have uf : ∀ o, w1.frozen? ⟨b, o, none⟩ = false := fun o => (j4.frozen lb (by show ¬ w.heap.size ≤ b; omega) o).trans (fz o)
      have lb2 : b < w1.heap.size := by have := j4.size; omega
      have HO : Hid (w1.ownsRow (w.heap.size + 2) 44 2 (.slice a1 1 c1) 1 (flat (leftF f e))) := by
        have e1 : flat (leftF f e) = [] ++ flat [(f.1, e.1 - f.1)] := by simp [leftF, p1, p2, flat]
        show w1.ownsRow _ _ _ _ _ _
        rw [e1]; exact ho1
      have hK : (leftF f e).length = 1 := by simp [leftF, p1, p2]
      have H2 := H.out.chg j4 (fun k hk hk2 => absurd hk2 (by omega)) (by omega)
      have RX := Lib.hid (IsE.rest (A := A ++ [f]) (R := R) (by rw [List.append_assoc]; exact H2.rd) (A.length + 1) (by simp))
      have RI := Lib.hid (IsE.init H2.rd)
      clear H2
      have i3 : w.heap.size + 2 ≤ w1.heap.size := by omega
      clear ho1 hg1 hone1 s1 t1 t2 j0 j1 j2 j3 k0 k1
      have l3 : (A.length : Int) ≤ c := by omega
      have l4 : (0 : Int) ≤ A.length := by omega
      have l5 : (A.length : Int) + 1 ≤ A.length + (R.length + 1) := by omega
      have l6 : (0 : Int) ≤ A.length + 1 := by omega
      have l7 : IntKind.i64.wrap ((A.length : Int) + 1) = A.length + 1 := IntWalk.i64_in _ (by omega)
      go_region_law (first
        | (refine step_owned (by rfl) _ _ 36 (by rfl) (w.heap.size + 2) 44 ie _ 2 16 Try.underlying36 hie ez0 ez1 ez2 rfl (by decide) (by rfl) (by rfl) HO.out.drew (flat_one _) (by exact RX.out.cast (by omega)) (by unfold maxLen; omega) (by omega) (by simp; omega) ?_; intro a3 c3 w3 ho3 hg3 hone3; have s3 := hg3.size; simp at s3; have v3 : w3.cell? ⟨b, 2, none⟩ = some (.slice (some ⟨g, o, none⟩) (A.length + (R.length + 1)) c) := (by rw [hg3.cell_far _ (by simp; omega) (own_ne2 HO.out (by simp; omega))]; go_simp); have vf3 : w3.frozen? ⟨b, 2, none⟩ = false := (by rw [hg3.frozen_far _ (by simp; omega) (own_ne2 HO.out (by simp; omega))]; go_simp); have j3 : Chg (fun k => w.heap.size ≤ k) w w3 := Chg.grown j4.drew hg3 (fun k hk => .inl (by show w.heap.size ≤ k; have := (own_below HO.out hk).1; omega)); have RJ := Lib.hid (RdS.block RI.out (S := fun k => w.heap.size ≤ k) (Chg.grown (Chg.drew (Chg.refl _ _)) hg3 (fun k hk => .inl (by show w.heap.size ≤ k; have := (own_below HO.out hk).1; omega))) (by intro k hk; simp [Value.ownBlock] at hk; show ¬ w.heap.size ≤ k; omega)))
        | (refine step_full (by rfl) _ _ 36 (by rfl) 44 ie _ 2 16 Try.underlying36 hie ez0 ez1 ez2 rfl (by decide) (by rfl) (by rfl) RJ.out (RdS.row ho3 hone3) (by unfold maxLen; omega) (by omega) ?_; intro a4 c4 w4 rd4 hg4 hown4; have hN : A.length + (1 + (A.length + (R.length + 1) - (A.length + 1))) = (A ++ (leftF f e ++ R)).length := (by rw [List.length_append, List.length_append, hK] <;> omega); rw [hN] at rd4 hown4 ⊢; have s4 := hg4.size; have v4 : w4.cell? ⟨b, 2, none⟩ = some (.slice (some ⟨g, o, none⟩) (A.length + (R.length + 1)) c) := (by rw [hg4.cell_far _ (by simp; omega) (by simp)]; exact v3); have vf4 : w4.frozen? ⟨b, 2, none⟩ = false := (by rw [hg4.frozen_far _ (by simp; omega) (by simp)]; exact vf3); have j4 : Chg (fun k => w.heap.size ≤ k) w w4 := Chg.grown j3 hg4 (by simp)))
      all_goals go_wp2
      all_goals go_end0
      all_goals
        have hp := H.out.put (a' := a4) (c' := c4) j4 (fun k hk => by omega) (by show RdS _ _ _ _ _ _; rw [flat_append, flat_append]; exact rd4) (fun q hq => by
          rcases hown4 q hq with h | h
          · exact .inl h
          · right; exact ⟨by omega, h.2⟩) (take_norm H.out.norm h1 h2 h3).1
        exact ⟨rfl, ⟨_, _, by simpa only [List.length_append, hK, Nat.zero_add] using hp.1⟩, by simpa only [List.length_append, hK, Nat.zero_add] using hp.2⟩
  · have q1 : decide (f.1 < e.1) = false := by simp; omega
    by_cases p2 : e.1 + e.2 < f.1 + f.2
    · go_enter Try.func29, Try.ntmps29
      go_wp2_with (first
        | (at_builtin; refine list_owned rfl _ _ 36 rfl (w.heap.size + 2) 44 ie _ 2 16 Try.underlying36 hie ez0 ez1 ez2 rfl (by decide) rfl rfl (World.ownsRow_nil _ _ _ _) (by simp) (rd_two (by simp) _ _ _) (by unfold maxLen; omega) (by omega) (by simp) ?_; intro a1 c1 w1 ho1 hg1 hone1; have s1 := hg1.size; simp at s1; have t1 : w.heap.size < w1.heap.size := (by omega); have t2 : w.heap.size + 1 < w1.heap.size := (by omega); have j0 : w1.cell? ⟨w.heap.size, 0, none⟩ = some (.int .i64 e.1) := (by rw [hg1.cell_far _ (by simp <;> omega) (by simp [Value.ownBlock])]; go_simp); have j1 : w1.cell? ⟨w.heap.size, 1, none⟩ = some (.int .i64 e.2) := (by rw [hg1.cell_far _ (by simp <;> omega) (by simp [Value.ownBlock])]; go_simp); have j2 : w1.cell? ⟨w.heap.size + 1, 0, none⟩ = some (.int .i64 f.1) := (by rw [hg1.cell_far _ (by simp <;> omega) (by simp [Value.ownBlock])]; go_simp); have j3 : w1.cell? ⟨w.heap.size + 1, 1, none⟩ = some (.int .i64 f.2) := (by rw [hg1.cell_far _ (by simp <;> omega) (by simp [Value.ownBlock])]; go_simp); have j4 : Chg (fun k => w.heap.size ≤ k) w w1 := Chg.grown (by repeat (first | with_reducible exact Chg.refl _ _ | with_reducible assumption | with_reducible refine Chg.drewN ?_ _ | with_reducible refine Chg.drew ?_ | with_reducible refine Chg.alloc ?_ _ | with_reducible refine Chg.setCell ?_ (by first | (left; rfl) | (right; exact Nat.le_refl _) | (right; simp; done) | (right; omega) | (right; simp at *; omega) | (simp at *; omega)) _ | with_reducible refine Chg.trans ?_ (by with_reducible assumption) (by intro i hi hT; first | exact hT | exact False.elim hT | omega | (simp at *; omega)))) hg1 (by simp [Value.ownBlock]))
        | fail)
      have u2 : w1.cell? ⟨b, 2, none⟩ = some (.slice (some ⟨g, o, none⟩) (A ++ f :: R).length c) := (j4.cell lb (by show ¬ w.heap.size ≤ b; omega) 2).trans d2
      have uf : ∀ o, w1.frozen? ⟨b, o, none⟩ = false := fun o => (j4.frozen lb (by show ¬ w.heap.size ≤ b; omega) o).trans (fz o)
      have lb2 : b < w1.heap.size := by have := j4.size; omega
      have HO : Hid (w1.ownsRow (w.heap.size + 2) 44 2 (.slice a1 1 c1) 1 (flat (leftF f e))) := by
        have e1 : flat (leftF f e) = [] ++ flat [(e.1 + e.2, f.1 + f.2 - (e.1 + e.2))] := by simp [leftF, p1, p2, flat]
        show w1.ownsRow _ _ _ _ _ _
        rw [e1]; exact ho1
      have hK : (leftF f e).length = 1 := by simp [leftF, p1, p2]
      have H2 := H.out.chg j4 (fun k hk hk2 => absurd hk2 (by omega)) (by omega)
      have RX := Lib.hid (IsE.rest (A := A ++ [f]) (R := R) (by rw [List.append_assoc]; exact H2.rd) (A.length + 1) (by simp))
      have RI := Lib.hid (IsE.init H2.rd)
      clear H2
      have i3 : w.heap.size + 2 ≤ w1.heap.size := by omega
      clear ho1 hg1 hone1 s1 t1 t2 j0 j1 j2 j3 k0 k1
      have l3 : (A.length : Int) ≤ c := by omega
      have l4 : (0 : Int) ≤ A.length := by omega
      have l5 : (A.length : Int) + 1 ≤ A.length + (R.length + 1) := by omega
      have l6 : (0 : Int) ≤ A.length + 1 := by omega
      have l7 : IntKind.i64.wrap ((A.length : Int) + 1) = A.length + 1 := IntWalk.i64_in _ (by omega)
      go_region_law (first
        | (refine step_owned (by rfl) _ _ 36 (by rfl) (w.heap.size + 2) 44 ie _ 2 16 Try.underlying36 hie ez0 ez1 ez2 rfl (by decide) (by rfl) (by rfl) HO.out.drew (flat_one _) (by exact RX.out.cast (by omega)) (by unfold maxLen; omega) (by omega) (by simp; omega) ?_; intro a3 c3 w3 ho3 hg3 hone3; have s3 := hg3.size; simp at s3; have v3 : w3.cell? ⟨b, 2, none⟩ = some (.slice (some ⟨g, o, none⟩) (A.length + (R.length + 1)) c) := (by rw [hg3.cell_far _ (by simp; omega) (own_ne2 HO.out (by simp; omega))]; go_simp); have vf3 : w3.frozen? ⟨b, 2, none⟩ = false := (by rw [hg3.frozen_far _ (by simp; omega) (own_ne2 HO.out (by simp; omega))]; go_simp); have j3 : Chg (fun k => w.heap.size ≤ k) w w3 := Chg.grown j4.drew hg3 (fun k hk => .inl (by show w.heap.size ≤ k; have := (own_below HO.out hk).1; omega)); have RJ := Lib.hid (RdS.block RI.out (S := fun k => w.heap.size ≤ k) (Chg.grown (Chg.drew (Chg.refl _ _)) hg3 (fun k hk => .inl (by show w.heap.size ≤ k; have := (own_below HO.out hk).1; omega))) (by intro k hk; simp [Value.ownBlock] at hk; show ¬ w.heap.size ≤ k; omega)))
        | (refine step_full (by rfl) _ _ 36 (by rfl) 44 ie _ 2 16 Try.underlying36 hie ez0 ez1 ez2 rfl (by decide) (by rfl) (by rfl) RJ.out (RdS.row ho3 hone3) (by unfold maxLen; omega) (by omega) ?_; intro a4 c4 w4 rd4 hg4 hown4; have hN : A.length + (1 + (A.length + (R.length + 1) - (A.length + 1))) = (A ++ (leftF f e ++ R)).length := (by rw [List.length_append, List.length_append, hK] <;> omega); rw [hN] at rd4 hown4 ⊢; have s4 := hg4.size; have v4 : w4.cell? ⟨b, 2, none⟩ = some (.slice (some ⟨g, o, none⟩) (A.length + (R.length + 1)) c) := (by rw [hg4.cell_far _ (by simp; omega) (by simp)]; exact v3); have vf4 : w4.frozen? ⟨b, 2, none⟩ = false := (by rw [hg4.frozen_far _ (by simp; omega) (by simp)]; exact vf3); have j4 : Chg (fun k => w.heap.size ≤ k) w w4 := Chg.grown j3 hg4 (by simp)))
      all_goals go_wp2
      all_goals go_end0
      all_goals
        have hp := H.out.put (a' := a4) (c' := c4) j4 (fun k hk => by omega) (by show RdS _ _ _ _ _ _; rw [flat_append, flat_append]; exact rd4) (fun q hq => by
          rcases hown4 q hq with h | h
          · exact .inl h
          · right; exact ⟨by omega, h.2⟩) (take_norm H.out.norm h1 h2 h3).1
        exact ⟨rfl, ⟨_, _, by simpa only [List.length_append, hK, Nat.zero_add] using hp.1⟩, by simpa only [List.length_append, hK, Nat.zero_add] using hp.2⟩
    · have q2 : decide (e.1 + e.2 < f.1 + f.2) = false := by simp; omega
      go_enter Try.func29, Try.ntmps29
      go_wp2_with fail
      refine name_region ?_; intro w1 hw1
      have j4 : Chg (fun k => w.heap.size ≤ k) w w1 := by subst hw1; exact (by repeat (first | with_reducible exact Chg.refl _ _ | with_reducible assumption | with_reducible refine Chg.drewN ?_ _ | with_reducible refine Chg.drew ?_ | with_reducible refine Chg.alloc ?_ _ | with_reducible refine Chg.setCell ?_ (by first | (left; rfl) | (right; exact Nat.le_refl _) | (right; simp; done) | (right; omega) | (right; simp at *; omega) | (simp at *; omega)) _ | with_reducible refine Chg.trans ?_ (by with_reducible assumption) (by intro i hi hT; first | exact hT | exact False.elim hT | omega | (simp at *; omega))))
      have s1 : w.heap.size + 2 ≤ w1.heap.size := by subst hw1; simp
      clear hw1
      have u2 : w1.cell? ⟨b, 2, none⟩ = some (.slice (some ⟨g, o, none⟩) (A ++ f :: R).length c) := (j4.cell lb (by show ¬ w.heap.size ≤ b; omega) 2).trans d2
      have uf : ∀ o, w1.frozen? ⟨b, o, none⟩ = false := fun o => (j4.frozen lb (by show ¬ w.heap.size ≤ b; omega) o).trans (fz o)
      have lb2 : b < w1.heap.size := by have := j4.size; omega
      have HO : Hid (w1.ownsRow (w.heap.size + 2) 44 2 (.slice none 0 0) 0 (flat (leftF f e))) := by
        have e1 : flat (leftF f e) = [] := by simp [leftF, p1, p2, flat]
        show w1.ownsRow _ _ _ _ _ _
        rw [e1]; exact World.ownsRow_nil _ _ _ _
      have hK : (leftF f e).length = 0 := by simp [leftF, p1, p2]
      have H2 := H.out.chg j4 (fun k hk hk2 => absurd hk2 (by omega)) (by omega)
      have RX := Lib.hid (IsE.rest (A := A ++ [f]) (R := R) (by rw [List.append_assoc]; exact H2.rd) (A.length + 1) (by simp))
      have RI := Lib.hid (IsE.init H2.rd)
      clear H2
      have i3 : w.heap.size + 2 ≤ w1.heap.size := by omega
      clear k0 k1
      have l3 : (A.length : Int) ≤ c := by omega
      have l4 : (0 : Int) ≤ A.length := by omega
      have l5 : (A.length : Int) + 1 ≤ A.length + (R.length + 1) := by omega
      have l6 : (0 : Int) ≤ A.length + 1 := by omega
      have l7 : IntKind.i64.wrap ((A.length : Int) + 1) = A.length + 1 := IntWalk.i64_in _ (by omega)
      go_region_law (first
        | (refine step_owned (by rfl) _ _ 36 (by rfl) (w.heap.size + 2) 44 ie _ 2 16 Try.underlying36 hie ez0 ez1 ez2 rfl (by decide) (by rfl) (by rfl) HO.out.drew (flat_one _) (by exact RX.out.cast (by omega)) (by unfold maxLen; omega) (by omega) (by simp; omega) ?_; intro a3 c3 w3 ho3 hg3 hone3; rw [Nat.zero_add] at ho3 ⊢; have s3 := hg3.size; simp at s3; have v3 : w3.cell? ⟨b, 2, none⟩ = some (.slice (some ⟨g, o, none⟩) (A.length + (R.length + 1)) c) := (by rw [hg3.cell_far _ (by simp; omega) (own_ne2 HO.out (by simp; omega))]; go_simp); have vf3 : w3.frozen? ⟨b, 2, none⟩ = false := (by rw [hg3.frozen_far _ (by simp; omega) (own_ne2 HO.out (by simp; omega))]; go_simp); have j3 : Chg (fun k => w.heap.size ≤ k) w w3 := Chg.grown j4.drew hg3 (fun k hk => .inl (by show w.heap.size ≤ k; have := (own_below HO.out hk).1; omega)); have RJ := Lib.hid (RdS.block RI.out (S := fun k => w.heap.size ≤ k) (Chg.grown (Chg.drew (Chg.refl _ _)) hg3 (fun k hk => .inl (by show w.heap.size ≤ k; have := (own_below HO.out hk).1; omega))) (by intro k hk; simp [Value.ownBlock] at hk; show ¬ w.heap.size ≤ k; omega)))
        | (refine step_full (by rfl) _ _ 36 (by rfl) 44 ie _ 2 16 Try.underlying36 hie ez0 ez1 ez2 rfl (by decide) (by rfl) (by rfl) RJ.out (RdS.row ho3 hone3) (by unfold maxLen; omega) (by omega) ?_; intro a4 c4 w4 rd4 hg4 hown4; have hN : A.length + ((A.length + (R.length + 1) - (A.length + 1))) = (A ++ (leftF f e ++ R)).length := (by rw [List.length_append, List.length_append, hK] <;> omega); rw [hN] at rd4 hown4 ⊢; have s4 := hg4.size; have v4 : w4.cell? ⟨b, 2, none⟩ = some (.slice (some ⟨g, o, none⟩) (A.length + (R.length + 1)) c) := (by rw [hg4.cell_far _ (by simp; omega) (by simp)]; exact v3); have vf4 : w4.frozen? ⟨b, 2, none⟩ = false := (by rw [hg4.frozen_far _ (by simp; omega) (by simp)]; exact vf3); have j4 : Chg (fun k => w.heap.size ≤ k) w w4 := Chg.grown j3 hg4 (by simp)))
      all_goals go_wp2
      all_goals go_end0
      all_goals
        have hp := H.out.put (a' := a4) (c' := c4) j4 (fun k hk => by omega) (by show RdS _ _ _ _ _ _; rw [flat_append, flat_append]; exact rd4) (fun q hq => by
          rcases hown4 q hq with h | h
          · exact .inl h
          · right; exact ⟨by omega, h.2⟩) (take_norm H.out.norm h1 h2 h3).1
        exact ⟨rfl, ⟨_, _, by simpa only [List.length_append, hK, Nat.zero_add] using hp.1⟩, by simpa only [List.length_append, hK, Nat.zero_add] using hp.2⟩
end Go.Proofs.Ytheiodnckjmieaa
