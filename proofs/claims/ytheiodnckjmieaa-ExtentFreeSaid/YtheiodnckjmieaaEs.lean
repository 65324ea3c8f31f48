/- The reference's map: all, turn. -/
import Derived.Test.YtheiodnckjmieaaEr
namespace Go.Proofs.Ytheiodnckjmieaa
set_option linter.unusedVariables false
open Go.RowKit

def allF (F : List Bool) (p n : Nat) (d : Bool) : Bool := decide (∀ k, k < n → F[p + k]? = some d)

set_option maxHeartbeats 1000000 in
theorem rall_any (w : World) (S : Nat → Prop) (b : Nat) (base : Int) (a : Option Addr) (c : Nat) (F : List Bool) (x : Int) (p n : Nat) (d : Bool) (h : Rm w S b base a c F) (hx : x = base + p) (hp : p + n ≤ F.length) :
    Calls Try.prog 32 #[.pointer (some ⟨b, 0, none⟩), .agg #[.int .i64 x, .int .i64 n], .bool d] w fun e w' => e = .returned (.bool (allF F p n d)) ∧ Below w.heap.size w w' := by
  have lb := cell_lt h.c0
  have hbd := h.bd
  have d0 := h.c0
  have d1 := h.c1
  have H := Lib.hid h
  have hxb : x - base = p := by omega
  have hxx : 0 ≤ x ∧ x ≤ 2097152 := by omega
  have HX := Lib.hid hx
  clear h hx
  go_enter Try.func32, Try.ntmps32
  go_wp2_with fail
  refine name_region ?_; intro W hW
  have gW : Chg (fun _ => False) w W := by subst hW; exact (by repeat (first | with_reducible exact Chg.refl _ _ | with_reducible assumption | with_reducible refine Chg.drewN ?_ _ | with_reducible refine Chg.drew ?_ | with_reducible refine Chg.alloc ?_ _ | with_reducible refine Chg.setCell ?_ (by first | (left; rfl) | (right; exact Nat.le_refl _) | (right; simp; done) | (right; omega) | (right; simp at *; omega) | (simp at *; omega)) _ | with_reducible refine Chg.trans ?_ (by with_reducible assumption) (by intro i hi hT; first | exact hT | exact False.elim hT | omega | (simp at *; omega))))
  have e0 : W.cell? ⟨b, 0, none⟩ = some (.int .i64 base) := by rw [gW.cell lb id]; exact d0
  have e1 : W.cell? ⟨b, 1, none⟩ = some (.slice a F.length c) := by rw [gW.cell lb id]; exact d1
  have k0 : W.cell? ⟨w.heap.size, 0, none⟩ = some (.int .i64 x) := by subst hW; go_simp
  have k1 : W.cell? ⟨w.heap.size, 1, none⟩ = some (.int .i64 n) := by subst hW; go_simp
  have HW := Lib.hid (H.out.chg gW (fun _ _ h => h.elim) id)
  have z1 : w.heap.size < W.heap.size := by subst hW; simp
  have lbW : b < W.heap.size := by omega
  clear hW
  go_loopw [7] (fun i wr => ∃ k : Nat, k ≤ n ∧ i = .int .i64 (↑k : Int) ∧ Hid (∀ j, j < k → F[p + j]? = some d) ∧ Hid (∃ q, wr = W.drewN q)) (fun i _ => n - (intOf i).toNat)
  case atStart => exact ⟨0, by omega, rfl, fun j hj => by omega, 0, rfl⟩
  case round =>
    obtain ⟨k, hk, rfl, HA, HQ⟩ := hrel
    obtain ⟨q, rfl⟩ := HQ.out
    by_cases hkn : k < n
    · obtain ⟨y, hy⟩ : ∃ y, F[p + k]? = some y := ⟨_, List.getElem?_eq_getElem (by omega)⟩
      obtain ⟨g, o, rfl, lg, j0⟩ := HW.out.at hy
      have r1 : (x - base) + (k : Int) = ((p + k : Nat) : Int) := by omega
      have r2 : (p : Int) + k < F.length := by omega
      have HY := Lib.hid hy
      clear hy r1
      by_cases hyd : y = d
      · subst hyd
        go_wp2_with fail
        go_quiet (fail)
        go_wp2
        go_roundw
        case rel => exact ⟨k + 1, by omega, by go_num, fun j hj => by
          by_cases e : j = k
          · subst e; exact HY.out
          · exact HA.out j (by omega), _, rfl⟩
        case measure => simp [intOf]; omega
      · cases y <;> cases d <;> simp at hyd
        all_goals
          go_wp2_with fail
          go_quiet (fail)
          go_wp2
          go_ret
          refine ⟨ret_bool ?_, Chg.below (gW.trans (by repeat (first | with_reducible exact Chg.refl _ _ | with_reducible assumption | with_reducible refine Chg.drewN ?_ _ | with_reducible refine Chg.drew ?_ | with_reducible refine Chg.alloc ?_ _ | with_reducible refine Chg.setCell ?_ (by first | (left; rfl) | (right; exact Nat.le_refl _) | (right; simp; done) | (right; omega) | (right; simp at *; omega) | (simp at *; omega)) _ | with_reducible refine Chg.trans ?_ (by with_reducible assumption) (by intro i hi hT; first | exact hT | exact False.elim hT | omega | (simp at *; omega)))) (fun _ _ h => h))⟩
          rw [allF, eq_comm, decide_eq_false_iff_not]
          intro hh
          have := hh k hkn
          rw [HY.out] at this
          injection this with this
          cases this
    · obtain rfl : k = n := by omega
      go_wp2
      go_ret
      refine ⟨ret_bool ?_, Chg.below (gW.trans (by repeat (first | with_reducible exact Chg.refl _ _ | with_reducible assumption | with_reducible refine Chg.drewN ?_ _ | with_reducible refine Chg.drew ?_ | with_reducible refine Chg.alloc ?_ _ | with_reducible refine Chg.setCell ?_ (by first | (left; rfl) | (right; exact Nat.le_refl _) | (right; simp; done) | (right; omega) | (right; simp at *; omega) | (simp at *; omega)) _ | with_reducible refine Chg.trans ?_ (by with_reducible assumption) (by intro i hi hT; first | exact hT | exact False.elim hT | omega | (simp at *; omega)))) (fun _ _ h => h))⟩
      rw [allF, eq_comm, decide_eq_true_iff]
      exact HA.out

theorem row_empty {w : World} {q B sz : Nat} {t : TypeId} (hq : w.heap.size = q) (hB : B ≤ q) (hs : 0 ≤ maxLen) : (w.alloc (.cells #[] t)).ownsRow B t sz (.slice (some ⟨q, 0, none⟩) 0 0) 0 [] := by
  subst hq
  exact ⟨by simp, .inr ⟨w.heap.size, 0, #[], rfl, hB, heap_alloc_new _ _, by omega, hs, by simp, by simp⟩⟩
theorem setR_pos {F : List Bool} {p n : Nat} {d : Bool} : (setR F p n d).map Value.bool = (setR F p n d).map Value.bool := rfl

set_option maxHeartbeats 1000000 in
theorem rturn_any (w : World) (S : Nat → Prop) (b : Nat) (base : Int) (a : Option Addr) (c : Nat) (F : List Bool) (x : Int) (p n : Nat) (d : Bool) (h : Rm w S b base a c F) (hx : x = base + p) (hp : p + n ≤ F.length) (hn : 1 ≤ n) :
    Calls Try.prog 33 #[.pointer (some ⟨b, 0, none⟩), .agg #[.int .i64 x, .int .i64 n], .bool d] w fun e w' => e = .returned (.tuple #[]) ∧ (∃ a' c', Rm w' S b base a' c' (setR F p n d)) ∧ Chg (fun k => k = b) w w' := by
  obtain ⟨ie, hie, ez0, ez1, ez2⟩ := info_parts infoBool
  have lb := cell_lt h.c0
  have hbd := h.bd
  have d0 := h.c0
  have d1 := h.c1
  have fz := h.fz
  have H := Lib.hid h
  have hxb : x - base = p := by omega
  have hxx : 0 ≤ x ∧ x ≤ 2097152 := by omega
  clear h hx
  go_enter Try.func33, Try.ntmps33
  go_wp2_with (at_builtin; go_loud (refine list_owned rfl _ _ 56 rfl (w.heap.size + 1) 4 ie _ 1 1 Try.underlying56 hie ez0 ez1 ez2 rfl (by decide) rfl rfl (row_empty (by simp) (by simp) (by unfold maxLen; omega)) (by simp) (RdS.block H.out.rd (S := fun _ => False) (by repeat (first | with_reducible exact Chg.refl _ _ | with_reducible assumption | with_reducible refine Chg.drewN ?_ _ | with_reducible refine Chg.drew ?_ | with_reducible refine Chg.alloc ?_ _ | with_reducible refine Chg.setCell ?_ (by first | (left; rfl) | (right; exact Nat.le_refl _) | (right; simp; done) | (right; omega) | (right; simp at *; omega) | (simp at *; omega)) _ | with_reducible refine Chg.trans ?_ (by with_reducible assumption) (by intro i hi hT; first | exact hT | exact False.elim hT | omega | (simp at *; omega)))) (fun _ _ h => h)) (by unfold maxLen; omega) (by omega) (by simp) ?_; intro a1 c1 w1 ho1 hg1 hone1))
  rw [Nat.zero_add, List.nil_append] at ho1
  obtain ⟨_, _, hform, hcap1, hcap2, hat⟩ := own_form ho1
  injection hform with hf1 _ hf2
  subst hf1 hf2
  obtain ⟨y0, hy0⟩ : ∃ y, F[0]? = some y := ⟨_, List.getElem?_eq_getElem (by omega)⟩
  obtain ⟨g, rfl, hgB, hgl, _, hgf⟩ := hat 0 _ (bool_at hy0)
  have j0 : Hid (Chg (fun _ => False) w w1) := Chg.grown (by repeat (first | with_reducible exact Chg.refl _ _ | with_reducible assumption | with_reducible refine Chg.drewN ?_ _ | with_reducible refine Chg.drew ?_ | with_reducible refine Chg.alloc ?_ _ | with_reducible refine Chg.setCell ?_ (by first | (left; rfl) | (right; exact Nat.le_refl _) | (right; simp; done) | (right; omega) | (right; simp at *; omega) | (simp at *; omega)) _ | with_reducible refine Chg.trans ?_ (by with_reducible assumption) (by intro i hi hT; first | exact hT | exact False.elim hT | omega | (simp at *; omega)))) hg1 (fun k hk => .inr (by simp [Value.ownBlock] at hk; omega))
  have s1 := hg1.size
  simp at s1
  have nq1 : some w.heap.size ≠ (Value.slice (some ⟨w.heap.size + 1, 0, none⟩) 0 0).ownBlock := by simp [Value.ownBlock]
  have b0 : w1.cell? ⟨w.heap.size, 0, none⟩ = some (.int .i64 x) := by rw [hg1.cell_far _ (by simp <;> omega) nq1]; go_simp
  have b1 : w1.cell? ⟨w.heap.size, 1, none⟩ = some (.int .i64 n) := by rw [hg1.cell_far _ (by simp <;> omega) nq1]; go_simp
  have e0 : w1.cell? ⟨b, 0, none⟩ = some (.int .i64 base) := by rw [j0.out.cell lb id]; exact d0
  have HO := Lib.hid ho1
  clear hat hy0 ho1 hg1 hone1 nq1
  go_loopw [7] (fun i wr => ∃ k : Nat, k ≤ n ∧ i = .int .i64 (↑k : Int) ∧ Hid (wr.ownsRow (w.heap.size + 1) 4 1 (.slice (some ⟨g, 0, none⟩) F.length c1) F.length ((setR F p k d).map Value.bool)) ∧ Hid (Chg (fun k => k = g) w1 wr)) (fun i _ => n - (intOf i).toNat)
  case atStart => exact ⟨0, by omega, rfl, by rw [setR_zero]; exact HO.out, Chg.refl _ _⟩
  case round =>
    obtain ⟨k, hk, rfl, HR, HG⟩ := hrel
    have hgw : ∀ q, q ≤ w.heap.size → ¬ (q = g) := fun q hq => by omega
    have b0 : wr.cell? ⟨w.heap.size, 0, none⟩ = some (.int .i64 x) := by rw [HG.out.cell (by omega) (hgw _ (by omega))]; exact b0
    have b1 : wr.cell? ⟨w.heap.size, 1, none⟩ = some (.int .i64 n) := by rw [HG.out.cell (by omega) (hgw _ (by omega))]; exact b1
    have e0 : wr.cell? ⟨b, 0, none⟩ = some (.int .i64 base) := by rw [HG.out.cell (by omega) (hgw _ (by omega))]; exact e0
    have zr := HG.out.size
    by_cases hkn : k < n
    · obtain ⟨y, hy⟩ : ∃ y, (setR F p k d)[p + k]? = some y := ⟨_, List.getElem?_eq_getElem (by rw [setR_len]; omega)⟩
      obtain ⟨cj, fj, _, _⟩ := own_cell HR.out (j := p + k) (bool_at hy)
      have r2 : (p : Int) + k < F.length := by omega
      have HL : Hid (p + k < ((setR F p k d).map Value.bool).length) := by show _ < _; rw [List.length_map, setR_len]; omega
      clear hy
      go_wp2_with fail
      go_region
      all_goals
        go_wp2
        go_roundw
        case rel => exact ⟨k + 1, by omega, by go_num, by
          have h1 := own_put HR.out HL.out (.bool d)
          rw [← List.map_set, setR_step F p k d (by omega)] at h1
          exact own_chg h1 ((Chg.refl (fun _ => False) _).drew) (fun _ _ _ _ h => h), (HG.out.setCell (p := ⟨g, p + k, none⟩) (.inl rfl) _).drew⟩
        case measure => simp [intOf]; omega
    · obtain rfl : k = n := by omega
      have e1 : wr.cell? ⟨b, 1, none⟩ = some (.slice a F.length c) := by rw [HG.out.cell (by omega) (hgw _ (by omega)), j0.out.cell lb id]; exact d1
      have ef : ∀ o, wr.frozen? ⟨b, o, none⟩ = false := fun o => by rw [HG.out.frozen (by omega) (hgw _ (by omega)), j0.out.frozen lb id]; exact fz o
      go_wp2
      go_end0
      have hrd := RdS.row HR.out (bools_one _)
      have hl : (setR F p k d).length = F.length := setR_len _ _ _ _
      have K1 : Chg (fun k => k = g) w wr := (j0.out.mono (fun _ _ h => h.elim)).trans HG.out (fun _ _ h => h)
      have K : Chg (fun q => q = b) w (wr.setCell ⟨b, 1, none⟩ (.slice (some ⟨g, 0, none⟩) F.length c1)) := (K1.mono (T := fun q => q = b) (fun q hq h => by omega)).setCell (p := ⟨b, 1, none⟩) (.inl rfl) _
      refine ⟨rfl, ⟨some ⟨g, 0, none⟩, c1, ?_, ?_, ?_, ?_, ?_, H.out.sb, fun q hq => Nat.lt_of_lt_of_le (H.out.lt q hq) K.size, by rw [hl]; exact hbd⟩, K⟩
      · rw [cell_other (by simp)]; exact e0
      · rw [hl]; exact cell_same e1
      · intro o; rw [World.frozen?_setCell]; exact ef o
      · rw [hl]
        exact hrd.block (S := fun q => q = b) (Chg.setCell (S := fun q => q = b) (Chg.refl _ _) (p := ⟨b, 1, none⟩) (.inl rfl) _) (fun q hq => by simp [Value.ownBlock] at hq; omega)
      · intro q hq
        simp [Value.ownBlock] at hq
        subst hq
        exact ⟨fun hs => by have := H.out.lt _ hs; omega, by simp [World.setCell]; omega⟩
end Go.Proofs.Ytheiodnckjmieaa
