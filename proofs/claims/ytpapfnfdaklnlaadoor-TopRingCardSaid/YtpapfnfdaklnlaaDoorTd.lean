/- The chapter's example of the sets of bytes: two spans that touch become one. -/
import Derived.Test.YtpapfnfdaklnlaaDoorTc
import Derived.Deep.AppendLies
import Derived.Test.YtpapfnfdaklnlaaDoorTail
namespace Go.Proofs.YtpapfnfdaklnlaaDoor
set_option linter.unusedVariables false
open Go.RowKit

def spz : Value := .agg #[.int .i64 0, .int .i64 0]
theorem infoSp : (Tryd.prog.info? 47).map (fun i => (i.zero, i.size, i.bytes)) = some (some spz, 2, 16) := by kernel_rfl
theorem infoSp_parts : ∃ i, Tryd.prog.info? 47 = some i ∧ i.zero = some spz ∧ i.size = 2 ∧ i.bytes = 16 := by
  have h := infoSp
  cases hi : Tryd.prog.info? 47 with
  | none => rw [hi] at h; simp at h
  | some i => rw [hi] at h; simp at h; exact ⟨i, rfl, h⟩
theorem ints_oneCell2 (a b : Int) : ∀ u ∈ [Value.int .i64 a, .int .i64 b], u.oneCell' = true := by
  intro u hu; simp at hu; rcases hu with rfl | rfl <;> rfl
theorem two_at (w : World) (a b : Value) (t : TypeId) (j : Nat) (u : Value) (h : [a, b][j]? = some u) : (w.alloc (.cells #[a, b] t)).cell? ((⟨w.heap.size, 0, none⟩ : Addr).add j) = some u := by
  match j, h with
  | 0, h => simp at h; subst h; go_simp
  | 1, h => simp at h; subst h; go_simp
theorem own_nil {w : World} {B : Nat} {e : TypeId} {sz : Nat} : w.ownsRow B e sz (.slice none 0 0) 0 [] := ⟨by simp, .inl ⟨rfl, rfl⟩⟩

set_option maxHeartbeats 4000000 in
theorem gather_two (g cap : Nat) (w : World) (h : Two w g) (hc : 2 ≤ cap) : Calls Tryd.prog 32 #[.slice (some ⟨g, 0, none⟩) 2 cap] w fun e w' => Below w.heap.size w w' ∧ ∃ b c, e = .returned (.slice (some ⟨b, 0, none⟩) 1 c) ∧ 1 ≤ c ∧ w.heap.size ≤ b ∧ w'.cell? ⟨b, 0, none⟩ = some (.int .i64 2) ∧ w'.cell? ⟨b, 1, none⟩ = some (.int .i64 5) := by
  obtain ⟨it, hit, tz0, tz1, tz2⟩ := infoSp_parts
  have hsp : spz.cells.size = 2 := rfl
  have k0 := h.c0; have k1 := h.c1; have k2 := h.c2; have k3 := h.c3; have hg := h.lt
  go_enter Tryd.func32, Tryd.ntmps32
  go_wp2
  refine wp_loop_rounds 3 ?_
  rw [rounds_succ]
  go_upto_region 6 with fail
  go_quiet (fail)
  go_upto_region 8 with fail
  obtain ⟨w0, hw0⟩ : ∃ w0, w0 = w.alloc (Obj.cells #[Value.int IntKind.i64 2, Value.int IntKind.i64 4] 47) := ⟨_, rfl⟩
  have q0 : w0.cell? ⟨w.heap.size, 0, none⟩ = some (.int .i64 2) := by subst hw0; go_simp
  have q1 : w0.cell? ⟨w.heap.size, 1, none⟩ = some (.int .i64 4) := by subst hw0; go_simp
  have b0 : Below w.heap.size w w0 := by subst hw0; exact (by repeat (first | with_reducible exact Below.refl _ _ | with_reducible assumption | with_reducible refine below_drewN ?_ _ | with_reducible refine Below.drew ?_ | with_reducible refine Below.alloc ?_ (by first | exact Nat.le_refl _ | assumption | (simp; done) | omega | (simp at *; omega)) _ | with_reducible refine Below.setCell ?_ (by first | exact Nat.le_refl _ | assumption | (simp; done) | omega | (simp at *; omega)) _ | with_reducible refine Below.trans ?_ (Below.mono (by with_reducible assumption) (by first | exact Nat.le_refl _ | assumption | (simp; done) | omega | (simp at *; omega)))))
  have hB : w.heap.size < w0.heap.size := by subst hw0; simp
  rw [← hw0]
  clear hw0
  go_wp2_with (at_builtin; refine wpList_append_lies _ rfl _ _ 42 rfl w0.heap.size 47 it _ 2 16 Tryd.underlying42 hit tz0 tz1 tz2 hsp (by decide) (.slice none 0 0) 0 [] rfl own_nil ⟨w0.heap.size, 0, none⟩ 1 1 [.int .i64 2, .int .i64 4] rfl rfl (two_at _ _ _ _) (ints_oneCell2 2 4) (by decide) (by unfold maxLen; omega) (by omega) (by simp) _ rfl ?_; intro b c w1 o1 gr1 hb1 hl1)
  have c1 : Chg (fun _ => False) w0 w1 := (((Chg.refl _ w0).drewN _).alloc _).grown gr1 (by intro k hk; cases hk)
  have b1 : Below w.heap.size w w1 := b0.trans (Below.mono c1.below (Nat.le_of_lt hB))
  have z1 : w.heap.size ≤ w1.heap.size := b1.size
  obtain ⟨u0, u3, u2, _⟩ := own_cell (by simpa using o1) (j := 0) (u := .int .i64 2) (by rfl)
  obtain ⟨u1, _, _, _⟩ := own_cell (by simpa using o1) (j := 1) (u := .int .i64 4) (by rfl)
  have k2' := ((bcell b1).1 g 2 hg).trans k2
  have k3' := ((bcell b1).1 g 3 hg).trans k3
  clear gr1 c1 q0 q1
  have hcc : 1 ≤ c := by obtain ⟨_, _, hv, h1, _⟩ := own_form o1; cases hv; exact h1
  clear o1 hb1
  rw [rounds_succ]
  go_upto_region 6 with fail
  obtain ⟨w2, hw2⟩ : ∃ w2, w2 = w1.alloc (Obj.cells #[Value.int IntKind.i64 4, Value.int IntKind.i64 5] 47) := ⟨_, rfl⟩
  have q0 : w2.cell? ⟨w1.heap.size, 0, none⟩ = some (.int .i64 4) := by subst hw2; go_simp
  have q1 : w2.cell? ⟨w1.heap.size, 1, none⟩ = some (.int .i64 5) := by subst hw2; go_simp
  have b12 : Below w1.heap.size w1 w2 := by subst hw2; exact (by repeat (first | with_reducible exact Below.refl _ _ | with_reducible assumption | with_reducible refine below_drewN ?_ _ | with_reducible refine Below.drew ?_ | with_reducible refine Below.alloc ?_ (by first | exact Nat.le_refl _ | assumption | (simp; done) | omega | (simp at *; omega)) _ | with_reducible refine Below.setCell ?_ (by first | exact Nat.le_refl _ | assumption | (simp; done) | omega | (simp at *; omega)) _ | with_reducible refine Below.trans ?_ (Below.mono (by with_reducible assumption) (by first | exact Nat.le_refl _ | assumption | (simp; done) | omega | (simp at *; omega)))))
  have hB2 : w1.heap.size < w2.heap.size := by subst hw2; simp
  rw [← hw2]
  clear hw2
  have v0 := ((bcell b12).1 b 0 hl1).trans u0
  have v1 := ((bcell b12).1 b 1 hl1).trans u1
  have vf : ∀ o, w2.frozen? ⟨b, o, none⟩ = false := fun o => by rw [(bcell b12).2 b o hl1]; exact u3 o
  clear u0 u1 k0 k1 k2 k3
  have hbb : b < w2.heap.size := Nat.lt_trans hl1 hB2
  have b2 : Below w.heap.size w w2 := b1.trans (b12.mono z1)
  go_quiet (fail)
  go_upto_region 7 with fail
  obtain ⟨w3, hw3⟩ : ∃ w3, w3 = w2.drewN nq := ⟨_, rfl⟩
  have b3 : Below w.heap.size w w3 := by rw [hw3]; exact below_drewN b2 _
  have q03 : w3.cell? ⟨w1.heap.size, 0, none⟩ = some (.int .i64 4) := by rw [hw3]; exact q0
  have q13 : w3.cell? ⟨w1.heap.size, 1, none⟩ = some (.int .i64 5) := by rw [hw3]; exact q1
  have v03 : w3.cell? ⟨b, 0, none⟩ = some (.int .i64 2) := by rw [hw3]; exact v0
  have v13 : w3.cell? ⟨b, 1, none⟩ = some (.int .i64 4) := by rw [hw3]; exact v1
  have vf3 : ∀ o, w3.frozen? ⟨b, o, none⟩ = false := by rw [hw3]; exact vf
  have hb3 : b < w3.heap.size := by rw [hw3]; exact hbb
  have hq3 : w1.heap.size < w3.heap.size := by rw [hw3]; exact hB2
  rw [← hw3]
  clear hw3 q0 q1 v0 v1 vf b2 b12
  (have hN : w3.heap.size ≤ (World.heap w3).size := by first | assumption | exact Nat.le_refl _ | (simp; done) | omega | (simp; omega) | (simp at *; omega)); (have kr := fun d os b o (h : b < w3.heap.size) => (below_regrown w3 d os).cell (p := ⟨b, o, none⟩) (Nat.lt_of_lt_of_le h hN)); (refine wp_region_below_tail 14 (by kernel_rfl) (by kernel_rfl) ?_); (simp only [List.take_succ_cons, List.take_zero, List.drop_succ_cons, List.drop_zero]); (repeat (first | go_big_quiet_step ((first | fail)) | quiet_step ((first | fail)))); (refine wpQuiet_nil ?_); (intro w9 hw9); (obtain ⟨⟨dq, osq⟩, hw9⟩ := hw9); (have g9 := below_regrown w3 dq osq); (rw [← hw9] at g9); (have g9 : Below (w3.heap.size) _ w9 := g9.mono hN); (have z9 : w3.heap.size ≤ w9.heap.size := Nat.le_trans hN g9.size); (have c9 := fun b o h => g9.cell (p := ⟨b, o, none⟩) h); (have f9 := fun b o h => g9.frozen (p := ⟨b, o, none⟩) h); (clear hw9 kr hN g9)
  have b9 : Below w.heap.size w w9 := b3.trans (g9.mono (Nat.le_of_lt (Nat.lt_of_le_of_lt z1 hq3)))
  have d0 : w9.cell? ⟨b, 0, none⟩ = some (.int .i64 2) := by rw [c9 b 0 hb3]; exact v03
  have d1 : w9.cell? ⟨b, 1, none⟩ = some (.int .i64 4) := by rw [c9 b 1 hb3]; exact v13
  have df : ∀ o, w9.frozen? ⟨b, o, none⟩ = false := fun o => by rw [f9 b o hb3]; exact vf3 o
  have hb9 : b < w9.heap.size := Nat.lt_of_lt_of_le hb3 z9
  have hwb : w.heap.size ≤ b := Nat.le_trans (Nat.le_of_lt hB) u2
  clear q03 q13 v03 v13 vf3 c9 f9
  go_wp2
  rw [rounds_succ]
  go_wp2
  go_ret
  refine ⟨?_, b, c, rfl, hcc, hwb, by go_simp, by go_simp⟩
  exact Below.setCell b9 (by simpa using hwb) _
end Go.Proofs.YtpapfnfdaklnlaaDoor
