/- The chapter's example of the sets of bytes: the set of two spans that touch. -/
import Derived.Test.YtpapfnfdaklnlaaDoorTd
import Derived.Laws.Rows
namespace Go.Proofs.YtpapfnfdaklnlaaDoor
set_option linter.unusedVariables false
open Go.RowKit

def SetPost (w : World) (e : Ending) (w' : World) : Prop := Below w.heap.size w w' ∧ ∃ b c, e = .returned (.agg #[.slice (some ⟨b, 0, none⟩) 1 c]) ∧ 1 ≤ c ∧ w'.cell? ⟨b, 0, none⟩ = some (.int .i64 2) ∧ w'.cell? ⟨b, 1, none⟩ = some (.int .i64 5)
theorem set_heap {w : World} {r : Nat} {x v : Value} {t : TypeId} (h : w.heap[r]? = some (.cells #[x] t (0, 0))) : (w.setCell ⟨r, 0, none⟩ v).heap[r]? = some (.cells #[v] t (0, 0)) := by
  have hr : r < w.heap.size := by
    by_cases hb : r < w.heap.size
    · exact hb
    · simp [Array.getElem?_eq_none (Nat.le_of_not_lt hb)] at h
  have h' : w.heap[r] = .cells #[x] t (0, 0) := by simpa [hr] using h
  have hs : r < (w.setCell ⟨r, 0, none⟩ v).heap.size := by simpa [World.setCell] using hr
  rw [Array.getElem?_eq_getElem hs]
  simp [World.setCell, Array.getElem_modify, h']
theorem row_cell {w : World} {r : Nat} {x : Value} {t : TypeId} (h : w.heap[r]? = some (.cells #[x] t (0, 0))) : w.cell? ⟨r, 0, none⟩ = some x ∧ w.frozen? ⟨r, 0, none⟩ = false := by
  constructor
  · simp [World.cell?, h]
  · simp [World.frozen?, h]

set_option maxHeartbeats 8000000 in
set_option maxRecDepth 10000 in
theorem of_two (g : Nat) (w : World) (h : Two w g) : Calls Tryd.prog 13 #[.slice (some ⟨g, 0, none⟩) 2 2] w (SetPost w) := by
  obtain ⟨it, hit, tz0, tz1, tz2⟩ := infoSp_parts
  have hsp : spz.cells.size = 2 := rfl
  have k00 := h.c0; have k10 := h.c1; have k20 := h.c2; have k30 := h.c3; have hg0 := h.lt
  go_enter Tryd.func13, Tryd.ntmps13
  go_upto_region 2 with fail
  obtain ⟨v0, hv0⟩ : ∃ v0, v0 = w.alloc (Obj.cells #[Value.slice none 0 0] 44) := ⟨_, rfl⟩
  have r0 : v0.heap[w.heap.size]? = some (.cells #[.slice none 0 0] 44 (0, 0)) := by subst hv0; exact heap_alloc_new _ _
  have b0 : Below w.heap.size w v0 := by subst hv0; exact (by repeat (first | with_reducible exact Below.refl _ _ | with_reducible assumption | with_reducible refine below_drewN ?_ _ | with_reducible refine Below.drew ?_ | with_reducible refine Below.alloc ?_ (by first | exact Nat.le_refl _ | assumption | (simp; done) | omega | (simp at *; omega)) _ | with_reducible refine Below.setCell ?_ (by first | exact Nat.le_refl _ | assumption | (simp; done) | omega | (simp at *; omega)) _ | with_reducible refine Below.trans ?_ (Below.mono (by with_reducible assumption) (by first | exact Nat.le_refl _ | assumption | (simp; done) | omega | (simp at *; omega)))))
  have hz0 : w.heap.size < v0.heap.size := by subst hv0; simp
  have o0 : v0.ownsRow v0.heap.size 47 2 (.slice none 0 0) 0 [] := own_nil
  rw [← hv0]
  clear hv0
  replace k00 := ((bcell b0).1 g 0 hg0).trans k00
  replace k10 := ((bcell b0).1 g 1 hg0).trans k10
  replace k20 := ((bcell b0).1 g 2 hg0).trans k20
  replace k30 := ((bcell b0).1 g 3 hg0).trans k30
  go_wp2
  refine wp_loop_rounds 3 ?_
  rw [rounds_succ]
  go_upto_region 5 with fail
  obtain ⟨x0, hx0⟩ : ∃ x0, x0 = v0.alloc (Obj.cells #[Value.int IntKind.i64 2, Value.int IntKind.i64 4] 47) := ⟨_, rfl⟩
  have p00 : x0.cell? ⟨v0.heap.size, 0, none⟩ = some (.int .i64 2) := by subst hx0; go_simp
  have p10 : x0.cell? ⟨v0.heap.size, 1, none⟩ = some (.int .i64 4) := by subst hx0; go_simp
  have bx0 : Below v0.heap.size v0 x0 := by subst hx0; exact (by repeat (first | with_reducible exact Below.refl _ _ | with_reducible assumption | with_reducible refine below_drewN ?_ _ | with_reducible refine Below.drew ?_ | with_reducible refine Below.alloc ?_ (by first | exact Nat.le_refl _ | assumption | (simp; done) | omega | (simp at *; omega)) _ | with_reducible refine Below.setCell ?_ (by first | exact Nat.le_refl _ | assumption | (simp; done) | omega | (simp at *; omega)) _ | with_reducible refine Below.trans ?_ (Below.mono (by with_reducible assumption) (by first | exact Nat.le_refl _ | assumption | (simp; done) | omega | (simp at *; omega)))))
  have hp0 : v0.heap.size < x0.heap.size := by subst hx0; simp
  have ox0 : x0.ownsRow v0.heap.size 47 2 (.slice none 0 0) 0 [] := by subst hx0; exact o0.alloc _
  rw [← hx0]
  clear hx0 o0
  go_wp2_with (first
    | (go_at_call 28; refine (span_right 2 4 (by omega) (by omega) (by omega) _).mono ?_; rintro e y0 ⟨rfl, by0⟩; have s00 := ((bcell by0).1 _ 0 hp0).trans p00; have s10 := ((bcell by0).1 _ 1 hp0).trans p10; have oy0 := own_chg ox0 (Chg.ofBelow by0) (fun _ _ _ _ => id))
    | (at_builtin; refine wpList_append_lies _ rfl _ _ 42 rfl v0.heap.size 47 it _ 2 16 Tryd.underlying42 hit tz0 tz1 tz2 hsp (by decide) (.slice none 0 0) 0 [] rfl (oy0.alloc _) ⟨y0.heap.size, 0, none⟩ 1 1 [.int .i64 2, .int .i64 4] rfl rfl (two_at _ _ _ _) (ints_oneCell2 2 4) (by decide) (by unfold maxLen; omega) (by omega) (by have := by0.size; have := bx0.size; simp; omega) _ rfl ?_; intro g1 c1 v1 o1 gr1 hb1 hl1))
  have q1 : Below v0.heap.size v0 v1 := (((((Chg.ofBelow (Below.refl _ v0)).trans (Chg.ofBelow bx0) (fun _ _ h => h)).trans (Chg.ofBelow by0) (fun _ _ h => h)).alloc _).grown gr1 (by intro k hk; cases hk) : Chg (fun _ => False) v0 v1).below
  replace o1 : v1.ownsRow v0.heap.size 47 2 (.slice (some ⟨g1, 0, none⟩) 1 c1) 1 [.int .i64 2, .int .i64 4] := o1
  have e1 : v0.heap.size ≤ g1 := (own_below o1 (c := g1) rfl).1
  have hc1 : 1 ≤ c1 := by obtain ⟨_, _, hv, h1, _⟩ := own_form o1; cases hv; exact h1
  have hz1 : w.heap.size < v1.heap.size := Nat.lt_of_lt_of_le hz0 q1.size
  clear gr1 hb1 oy0 ox0 p00 p10 s00 s10 hp0 bx0 by0
  have k21 := ((bcell q1).1 g 2 (Nat.lt_of_lt_of_le hg0 (Nat.le_of_lt hz0))).trans k20
  have k31 := ((bcell q1).1 g 3 (Nat.lt_of_lt_of_le hg0 (Nat.le_of_lt hz0))).trans k30
  clear k00 k10
  rw [rounds_succ]
  go_upto_region 5 with fail
  obtain ⟨x1, hx1⟩ : ∃ x1, x1 = v1.alloc (Obj.cells #[Value.int IntKind.i64 4, Value.int IntKind.i64 5] 47) := ⟨_, rfl⟩
  have p01 : x1.cell? ⟨v1.heap.size, 0, none⟩ = some (.int .i64 4) := by subst hx1; go_simp
  have p11 : x1.cell? ⟨v1.heap.size, 1, none⟩ = some (.int .i64 5) := by subst hx1; go_simp
  have bx1 : Below v1.heap.size v1 x1 := by subst hx1; exact (by repeat (first | with_reducible exact Below.refl _ _ | with_reducible assumption | with_reducible refine below_drewN ?_ _ | with_reducible refine Below.drew ?_ | with_reducible refine Below.alloc ?_ (by first | exact Nat.le_refl _ | assumption | (simp; done) | omega | (simp at *; omega)) _ | with_reducible refine Below.setCell ?_ (by first | exact Nat.le_refl _ | assumption | (simp; done) | omega | (simp at *; omega)) _ | with_reducible refine Below.trans ?_ (Below.mono (by with_reducible assumption) (by first | exact Nat.le_refl _ | assumption | (simp; done) | omega | (simp at *; omega)))))
  have hp1 : v1.heap.size < x1.heap.size := by subst hx1; simp
  have ox1 : x1.ownsRow v0.heap.size 47 2 (.slice (some ⟨g1, 0, none⟩) 1 c1) 1 [.int .i64 2, .int .i64 4] := by subst hx1; exact o1.alloc _
  rw [← hx1]
  clear hx1 o1
  go_wp2_with (first
    | (go_at_call 28; refine (span_right 4 5 (by omega) (by omega) (by omega) _).mono ?_; rintro e y1 ⟨rfl, by1⟩; have s01 := ((bcell by1).1 _ 0 hp1).trans p01; have s11 := ((bcell by1).1 _ 1 hp1).trans p11; have oy1 := own_chg ox1 (Chg.ofBelow by1) (fun _ _ _ _ => id))
    | (at_builtin; refine wpList_append_lies _ rfl _ _ 42 rfl v0.heap.size 47 it _ 2 16 Tryd.underlying42 hit tz0 tz1 tz2 hsp (by decide) (.slice (some ⟨g1, 0, none⟩) 1 c1) 1 [.int .i64 2, .int .i64 4] rfl (oy1.alloc _) ⟨y1.heap.size, 0, none⟩ 1 1 [.int .i64 4, .int .i64 5] rfl rfl (two_at _ _ _ _) (ints_oneCell2 4 5) (by decide) (by unfold maxLen; omega) (by omega) (by have := by1.size; have := bx1.size; have := q1.size; simp; omega) _ rfl ?_; intro g2 c2 v2 o2 gr2 hb2 hl2))
  have q2 : Below v0.heap.size v0 v2 := (((((Chg.ofBelow q1).trans (Chg.ofBelow bx1) (fun _ _ h => h)).trans (Chg.ofBelow by1) (fun _ _ h => h)).alloc _).grown gr2 (by intro k hk; cases hk; exact .inr e1) : Chg (fun _ => False) v0 v2).below
  replace o2 : v2.ownsRow v0.heap.size 47 2 (.slice (some ⟨g2, 0, none⟩) 2 c2) 2 [.int .i64 2, .int .i64 4, .int .i64 4, .int .i64 5] := o2
  have e2 : v0.heap.size ≤ g2 := (own_below o2 (c := g2) rfl).1
  have hc2 : 2 ≤ c2 := by obtain ⟨_, _, hv, h1, _⟩ := own_form o2; cases hv; exact h1
  have hz2 : w.heap.size < v2.heap.size := Nat.lt_of_lt_of_le hz0 q2.size
  clear gr2 hb2 oy1 ox1 p01 p11 s01 s11 hp1 bx1 by1
  clear k21 k31
  have T2 : Two v2 g2 := ⟨(own_cell o2 (j := 0) rfl).1, (own_cell o2 (j := 1) rfl).1, (own_cell o2 (j := 2) rfl).1, (own_cell o2 (j := 3) rfl).1⟩
  clear o2
  rw [rounds_succ]
  go_wp2_with (first
    | (go_at_call 29; refine (sort_two g2 c2 _ T2 hc2).mono ?_; rintro e x3 ⟨rfl, b3⟩; have T3 := T2.below b3)
    | (go_at_call 32; refine (gather_two g2 c2 _ T3 hc2).mono ?_; rintro e x4 ⟨b4, b, c, rfl, hc, hbx, u0, u1⟩; have b34 := b3.trans (b4.mono b3.size); have b04 := q2.trans (b34.mono q2.size); have r4 := (b04.block _ hz0).trans r0; obtain ⟨r5, r6⟩ := row_cell r4; have z4 := Nat.lt_of_lt_of_le hz0 b04.size))
  have hne : w.heap.size < b := Nat.lt_of_lt_of_le (Nat.lt_of_lt_of_le hz2 b3.size) hbx
  refine bodyPost_ret (v := .agg #[.slice (some ⟨b, 0, none⟩) 1 c]) (results_cell_row rfl _ _ w.heap.size 44 _ (0, 0) _ rfl (set_heap r4) Tryd.underlying44 rfl (by kernel_rfl)) rfl ⟨?_, b, c, rfl, hc, ?_, ?_⟩
  · exact Below.setCell (b0.trans (b04.mono (Nat.le_of_lt hz0))) (Nat.le_refl _) _
  · rw [← u0]; go_simp
  · rw [← u1]; go_simp
end Go.Proofs.YtpapfnfdaklnlaaDoor
