/- The ring's order of points, as the sort's closure tells it. -/
import Derived.Test.YtpapfnfdaklnlaaDoorRb
import Derived.Test.YtpapfnfdaklnlaaDoorTail
namespace Go.Proofs.YtpapfnfdaklnlaaDoor
set_option linter.unusedVariables false
open Go.RowKit Go.Sort

def cmpP (x y : Int × ByteArray) : Int := orI (cmpU x.1 y.1) (cmpS x.2.toList y.2.toList)
set_option maxHeartbeats 4000000 in
theorem less_pt (x y : Int × ByteArray) (W : World) : Calls Tryd.prog 21 #[.agg #[.int .u64 x.1, .string x.2], .agg #[.int .u64 y.1, .string y.2]] W fun e w' => e = .returned (.int .i64 (cmpP x y)) ∧ ∃ q os', w' = grow (W.drewN q) os' := by
  obtain ⟨x1, x2⟩ := x
  obtain ⟨y1, y2⟩ := y
  unfold cmpP
  simp only
  obtain ⟨r1, h1⟩ : ∃ r1, cmpU x1 y1 = r1 := ⟨_, rfl⟩
  obtain ⟨r2, h2⟩ : ∃ r2, cmpS x2.toList y2.toList = r2 := ⟨_, rfl⟩
  have e1 := fun V => cmp_u x1 y1 V
  have e2 := fun V => cmp_s x2 y2 V
  simp only [h1] at e1
  simp only [h2] at e2
  rw [h1, h2]
  clear h1 h2
  obtain ⟨r, h3⟩ : ∃ r, orI r1 r2 = r := ⟨_, rfl⟩
  have e3 := fun g V k0 k1 => or_two r1 r2 g V k0 k1
  simp only [h3] at e3
  rw [h3]
  clear h3
  go_enter Tryd.func21, Tryd.ntmps21
  go_upto_region 1 with fail
  obtain ⟨V, hV⟩ : ∃ V, V = (W.alloc (Obj.cells #[Value.int IntKind.u64 x1, Value.string x2] 63)).alloc (Obj.cells #[Value.int IntKind.u64 y1, Value.string y2] 63) := ⟨_, rfl⟩
  have c0 : V.cell? ⟨W.heap.size, 0, none⟩ = some (.int .u64 x1) := by subst hV; go_simp
  have c1 : V.cell? ⟨W.heap.size, 1, none⟩ = some (.string x2) := by subst hV; go_simp
  have c2 : V.cell? ⟨W.heap.size + 1, 0, none⟩ = some (.int .u64 y1) := by subst hV; go_simp
  have c3 : V.cell? ⟨W.heap.size + 1, 1, none⟩ = some (.string y2) := by subst hV; go_simp
  have hz : V.heap.size = W.heap.size + 2 := by subst hV; simp
  have HV := Lib.hid hV
  have HZ := Lib.hid hz
  rw [← hV]
  clear hV hz
  refine wp_region_quiet_tail (C := fun w' => ∃ q, w' = V.drewN q) 10 (by kernel_rfl) (by kernel_rfl) ⟨1, rfl⟩ ?_
  simp only [List.take_succ_cons, List.take_zero, List.drop_succ_cons, List.drop_zero]
  repeat (first | go_big_quiet_step (first | (go_at_call 23; first | exact quiet_add (e1 _) | exact quiet_same (e1 _)) | (go_at_call 24; first | exact quiet_add (e2 _) | exact quiet_same (e2 _))))
  refine wpQuiet_nil ?_
  rintro w' ⟨q, rfl⟩
  have pair0 : ∀ X : World, (X.alloc (Obj.cells #[Value.int IntKind.i64 r1, Value.int IntKind.i64 r2] 3)).cell? ⟨X.heap.size, 0, none⟩ = some (.int .i64 r1) := fun X => by go_simp
  have pair1 : ∀ X : World, (X.alloc (Obj.cells #[Value.int IntKind.i64 r1, Value.int IntKind.i64 r2] 3)).cell? ⟨X.heap.size, 1, none⟩ = some (.int .i64 r2) := fun X => by go_simp
  go_wp2_with (go_at_call 22; refine (e3 _ _ (pair0 _) (pair1 _)).mono ?_; rintro e w' ⟨rfl, rfl⟩)
  go_ret
  have hv : V = grow W (#[Obj.cells #[Value.int IntKind.u64 x1, Value.string x2] 63] ++ #[Obj.cells #[Value.int IntKind.u64 y1, Value.string y2] 63]) := by rw [HV.out, alloc_eq_grow, alloc_eq_grow, grow_grow]
  refine ⟨rfl, q, (#[Obj.cells #[Value.int IntKind.u64 x1, Value.string x2] 63] ++ #[Obj.cells #[Value.int IntKind.u64 y1, Value.string y2] 63]) ++ #[Obj.cells #[Value.int IntKind.i64 r1, Value.int IntKind.i64 r2] 3], ?_⟩
  rw [alloc_eq_grow, hv]
  exact grow_grow (W.drewN q) _ _
end Go.Proofs.YtpapfnfdaklnlaaDoor
