/- The chapter's example of the sets of bytes: the sort of two spans that lie in order. -/
import Derived.Test.YtpapfnfdaklnlaaDoorTb
import Derived.Deep.CutBlock
namespace Go.Proofs.YtpapfnfdaklnlaaDoor
set_option linter.unusedVariables false
open Go.RowKit

/-- A row of the two spans, of the walk's own making. -/
structure Two (w : World) (g : Nat) : Prop where
  c0 : w.cell? ⟨g, 0, none⟩ = some (.int .i64 2)
  c1 : w.cell? ⟨g, 1, none⟩ = some (.int .i64 4)
  c2 : w.cell? ⟨g, 2, none⟩ = some (.int .i64 4)
  c3 : w.cell? ⟨g, 3, none⟩ = some (.int .i64 5)
theorem Two.lt {w : World} {g : Nat} (h : Two w g) : g < w.heap.size := cell_lt h.c0
theorem Two.below {w w' : World} {g : Nat} (h : Two w g) (b : Below w.heap.size w w') : Two w' g :=
  ⟨((bcell b).1 _ _ h.lt).trans h.c0, ((bcell b).1 _ _ h.lt).trans h.c1, ((bcell b).1 _ _ h.lt).trans h.c2, ((bcell b).1 _ _ h.lt).trans h.c3⟩

set_option maxHeartbeats 4000000 in
theorem insertion (g cap : Nat) (w : World) (h : Two w g) (hc : 2 ≤ cap) : Calls Tryd.prog 61 #[.slice (some ⟨g, 0, none⟩) 2 cap, .int .i64 0, .int .i64 2, .func (.func 30) #[] #[]] w fun e w' => e = .returned (.tuple #[]) ∧ Below w.heap.size w w' := by
  have k0 := h.c0; have k1 := h.c1; have k2 := h.c2; have k3 := h.c3; have hg := h.lt
  go_enter Tryd.func61, Tryd.ntmps61
  go_wp2
  refine wp_loop_rounds 3 ?_
  rw [rounds_succ]
  go_wp2
  refine wp_loop_rounds 3 ?_
  rw [rounds_succ]
  go_upto_region 4 with fail
  (have hN : w.heap.size ≤ (World.heap w).size := by first | assumption | exact Nat.le_refl _ | (simp; done) | omega | (simp; omega) | (simp at *; omega)); (have kr := fun d os b o (h : b < w.heap.size) => (below_regrown w d os).cell (p := ⟨b, o, none⟩) (Nat.lt_of_lt_of_le h hN)); (refine wp_region_quiet_below (by kernel_rfl) (by kernel_rfl) ?_); (repeat (first | go_big_quiet_step ((first | (go_at_call 30; exact Calls.regrown_of (of_1 _)))) | quiet_step ((first | (go_at_call 30; exact Calls.regrown_of (of_1 _)))))); (refine wpQuiet_nil ?_); (intro w9 hw9); (obtain ⟨⟨dq, osq⟩, hw9⟩ := hw9); (have g9 := below_regrown w dq osq); (rw [← hw9] at g9); (have g9 : Below (w.heap.size) _ w9 := g9.mono hN); (have z9 : w.heap.size ≤ w9.heap.size := Nat.le_trans hN g9.size); (have c9 := fun b o h => g9.cell (p := ⟨b, o, none⟩) h); (have f9 := fun b o h => g9.frozen (p := ⟨b, o, none⟩) h); (clear hw9 kr hN g9)
  go_wp2
  rw [rounds_succ]
  go_wp2
  go_end0
  exact ⟨rfl, by assumption⟩

set_option maxHeartbeats 4000000 in
theorem pdq_two (g cap : Nat) (w : World) (h : Two w g) (hc : 2 ≤ cap) : Calls Tryd.prog 45 #[.slice (some ⟨g, 0, none⟩) 2 cap, .int .i64 0, .int .i64 2, .int .i64 2, .func (.func 30) #[] #[]] w fun e w' => e = .returned (.tuple #[]) ∧ Below w.heap.size w w' := by
  go_enter Tryd.func45, Tryd.ntmps45
  go_wp2
  refine wp_loop_rounds 1 ?_
  rw [rounds_succ]
  go_wp2_with (go_at_call 61; refine (insertion g cap w h hc).mono ?_; rintro e w' ⟨rfl, b⟩)
  (try simp only [Exit.inBlock, Exit.then]); refine bodyPost_ret (results_none rfl _ _ _) rfl ?_
  exact ⟨rfl, b⟩
set_option maxHeartbeats 1000000 in
theorem sort_two (g cap : Nat) (w : World) (h : Two w g) (hc : 2 ≤ cap) : Calls Tryd.prog 29 #[.slice (some ⟨g, 0, none⟩) 2 cap, .func (.func 30) #[] #[]] w fun e w' => e = .returned (.tuple #[]) ∧ Below w.heap.size w w' := by
  go_enter Tryd.func29, Tryd.ntmps29
  go_wp2_with (first
    | (go_at_call 39; refine (len_2 _).mono ?_; rintro e w' ⟨rfl, rfl⟩)
    | (go_at_call 45; refine (pdq_two g cap w h hc).mono ?_; rintro e w' ⟨rfl, b⟩))
  go_end0
  exact ⟨rfl, b⟩
end Go.Proofs.YtpapfnfdaklnlaaDoor
