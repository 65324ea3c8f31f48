/- The chapter's example of the sets of bytes: the set's text, and the example itself. -/
import Derived.Test.YtpapfnfdaklnlaaDoorTh
namespace Go.Proofs.YtpapfnfdaklnlaaDoor
set_option linter.unusedVariables false
open Go.RowKit

set_option maxHeartbeats 8000000 in
set_option maxRecDepth 10000 in
theorem text_two (b c : Nat) (w : World) (hc : 1 ≤ c) (h0 : w.cell? ⟨b, 0, none⟩ = some (.int .i64 2)) (h1 : w.cell? ⟨b, 1, none⟩ = some (.int .i64 5)) : Calls Tryd.prog 14 #[.agg #[.slice (some ⟨b, 0, none⟩) 1 c]] w fun e w' => e = .returned (.string txt) ∧ Below w.heap.size w w' := by
  have hb := cell_lt h0
  go_enter Tryd.func14, Tryd.ntmps14
  go_upto_region 4 with fail
  obtain ⟨v0, hv0⟩ : ∃ v0, v0 = (w.alloc (Obj.cells #[Value.slice (some ⟨b, 0, none⟩) 1 c] 44)).alloc (Obj.cells #[Value.pointer none, Value.slice none 0 0] 79) := ⟨_, rfl⟩
  have B0 : Bu v0 (w.heap.size + 1) (.pointer none) (.slice none 0 0) := by subst hv0; have := heap_alloc_new (w.alloc (Obj.cells #[Value.slice (some ⟨b, 0, none⟩) 1 c] 44)) (Obj.cells #[Value.pointer none, Value.slice none 0 0] 79); simpa [Bu] using this
  have s0 : v0.cell? ⟨w.heap.size, 0, none⟩ = some (.slice (some ⟨b, 0, none⟩) 1 c) := by subst hv0; go_simp
  have b0 : Below w.heap.size w v0 := by subst hv0; exact (by repeat (first | with_reducible exact Below.refl _ _ | with_reducible assumption | with_reducible refine below_drewN ?_ _ | with_reducible refine Below.drew ?_ | with_reducible refine Below.alloc ?_ (by first | exact Nat.le_refl _ | assumption | (simp; done) | omega | (simp at *; omega)) _ | with_reducible refine Below.setCell ?_ (by first | exact Nat.le_refl _ | assumption | (simp; done) | omega | (simp at *; omega)) _ | with_reducible refine Below.trans ?_ (Below.mono (by with_reducible assumption) (by first | exact Nat.le_refl _ | assumption | (simp; done) | omega | (simp at *; omega)))))
  have hz0 : w.heap.size + 1 < v0.heap.size := by subst hv0; simp
  rw [← hv0]
  clear hv0
  have k0 := ((bcell b0).1 b 0 hb).trans h0
  have k1 := ((bcell b0).1 b 1 hb).trans h1
  go_wp2
  refine wp_loop_rounds 2 ?_
  rw [rounds_succ]
  go_upto_region 9 with fail
  obtain ⟨v1, hv1⟩ : ∃ v1, v1 = v0.alloc (Obj.cells #[Value.int IntKind.i64 2, Value.int IntKind.i64 5] 47) := ⟨_, rfl⟩
  have b1 : Below v0.heap.size v0 v1 := by subst hv1; exact (by repeat (first | with_reducible exact Below.refl _ _ | with_reducible assumption | with_reducible refine below_drewN ?_ _ | with_reducible refine Below.drew ?_ | with_reducible refine Below.alloc ?_ (by first | exact Nat.le_refl _ | assumption | (simp; done) | omega | (simp at *; omega)) _ | with_reducible refine Below.setCell ?_ (by first | exact Nat.le_refl _ | assumption | (simp; done) | omega | (simp at *; omega)) _ | with_reducible refine Below.trans ?_ (Below.mono (by with_reducible assumption) (by first | exact Nat.le_refl _ | assumption | (simp; done) | omega | (simp at *; omega)))))
  have p0 : v1.cell? ⟨v0.heap.size, 0, none⟩ = some (.int .i64 2) := by subst hv1; go_simp
  have p1 : v1.cell? ⟨v0.heap.size, 1, none⟩ = some (.int .i64 5) := by subst hv1; go_simp
  have hz1 : v0.heap.size < v1.heap.size := by subst hv1; simp
  rw [← hv1]
  clear hv1
  have B1 : Bu v1 (w.heap.size + 1) (.pointer none) (.slice none 0 0) := (b1.block _ hz0).trans B0
  clear k0 k1 s0 B0
  go_wp2_with (go_at_call 35; refine (span_text _).mono ?_)
  rintro e v2 ⟨rfl, b2⟩
  have B2 : Bu v2 (w.heap.size + 1) (.pointer none) (.slice none 0 0) := (b2.block _ (Nat.lt_trans hz0 hz1)).trans B1
  clear p0 p1
  go_wp2_with (go_at_call 34; refine (write_new _ _ B2).mono ?_)
  rintro e v3 ⟨b3, rfl, g, cc, hg, B3, R3⟩
  go_wp2
  rw [rounds_succ]
  go_wp2_with (go_at_call 36; refine (string_txt _ g cc _ _ B3 R3).mono ?_)
  rintro e v4 ⟨rfl, b4⟩
  go_wp2
  go_ret
  refine ⟨rfl, ?_⟩
  have z2 := b2.size
  have z3 := b3.size
  exact b0.trans ((b1.mono (by omega)).trans ((b2.mono (by omega)).trans ((b3.mono (by omega)).trans (b4.mono (by omega)))))
theorem pair_new (w : World) : Two (w.alloc (Obj.cells #[Value.int IntKind.i64 2, Value.int IntKind.i64 4, Value.int IntKind.i64 4, Value.int IntKind.i64 5] 47)) w.heap.size :=
  ⟨by go_simp, by go_simp, by go_simp, by go_simp⟩
set_option maxHeartbeats 4000000 in
theorem alive_any (w : World) : Calls Tryd.prog 5 #[] w fun e w' => e = .returned (.bool true) ∧ Below w.heap.size w w' := by
  go_enter Tryd.func5, Tryd.ntmps5
  go_wp2_with (go_at_call 13; refine (of_two w.heap.size _ (pair_new w)).mono ?_)
  rintro e w1 ⟨b1, b, c, rfl, hc, u0, u1⟩
  have b01 : Below w.heap.size w w1 := Below.trans (by repeat (first | with_reducible exact Below.refl _ _ | with_reducible assumption | with_reducible refine below_drewN ?_ _ | with_reducible refine Below.drew ?_ | with_reducible refine Below.alloc ?_ (by first | exact Nat.le_refl _ | assumption | (simp; done) | omega | (simp at *; omega)) _ | with_reducible refine Below.setCell ?_ (by first | exact Nat.le_refl _ | assumption | (simp; done) | omega | (simp at *; omega)) _ | with_reducible refine Below.trans ?_ (Below.mono (by with_reducible assumption) (by first | exact Nat.le_refl _ | assumption | (simp; done) | omega | (simp at *; omega))))) (b1.mono (by simp))
  clear b1
  go_wp2_with (go_at_call 14; refine (text_two b c _ hc u0 u1).mono ?_)
  rintro e w2 ⟨rfl, b2⟩
  go_wp2
  go_ret
  exact ⟨by kernel_rfl, b01.trans (b2.mono b01.size)⟩
end Go.Proofs.YtpapfnfdaklnlaaDoor
