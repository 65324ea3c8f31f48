/- awake: answers that the document fixes. -/
import Derived.Test.YtheiodnckjmieaaEh
namespace Go.Proofs.Ytheiodnckjmieaa
set_option linter.unusedVariables false
open Go.RowKit

def F0 : List Bool := [true, true, true, true, true, true]
def F1 : List Bool := [false, false, true, true, true, true]
def F2 : List Bool := [false, false, false, false, false, true]
def F3 : List Bool := [true, true, false, false, false, true]
theorem ev0 : List.replicate 6 true = F0 := rfl
theorem ev1 : takeX 4 F0 2 = (4, 2) ∧ takeC F0 2 = 0 ∧ takeF F0 2 = F1 := by decide
theorem ev2 : takeX 4 F1 3 = (6, 3) ∧ takeC F1 3 = 0 ∧ takeF F1 3 = F2 := by decide
theorem ev3 : giveC 4 F2 4 2 = 0 ∧ giveF 4 F2 4 2 = F3 := by decide
theorem ev4 : takeX 4 F3 3 = (0, 0) ∧ takeC F3 3 = 5 ∧ takeF F3 3 = F3 := by decide
theorem ev5 : claimC 4 F3 5 2 = 7 ∧ claimF 4 F3 5 2 = F3 ∧ giveC 4 F3 4 1 = 6 ∧ giveF 4 F3 4 1 = F3 := by decide
theorem ev6 : countB F3 = 3 ∧ usedB 4 F3 7 = true ∧ usedB 4 F3 9 = false := by decide
theorem ev7 : Same 4 F3 [(4, 2), (9, 1)] := by
  refine ⟨by simp [Norm, F3], fun x => ?_⟩
  rw [mem_cons, mem_one]
  unfold inE freeB
  simp only
  by_cases h : 4 ≤ x ∧ x < 10
  · have h' : x = 4 ∨ x = 5 ∨ x = 6 ∨ x = 7 ∨ x = 8 ∨ x = 9 := by omega
    rcases h' with rfl | rfl | rfl | rfl | rfl | rfl <;> decide
  · constructor
    · intro h2; omega
    · rintro ⟨h1, h2⟩
      have := (List.getElem?_eq_some_iff.1 h2).1
      simp [F3] at this
      omega

set_option maxHeartbeats 4000000 in
set_option maxRecDepth 100000 in
theorem awake_any (w : World) : Calls Try.prog 10 #[] w fun e w' => e = .returned (.bool true) ∧ Chg (fun _ => False) w w' := by
  go_enter Try.func10, Try.ntmps10
  go_wp2_with fail
  refine (new_ef w 4 6 (by decide)).mono ?_; rintro e w1 ⟨rfl, hE, g1⟩
  rw [ev0] at hE
  have sb := hE.sb
  obtain ⟨B, hB⟩ : ∃ B, B = w.heap.size := ⟨_, rfl⟩
  rw [← hB] at hE sb ⊢
  have HE1 := Lib.hid hE
  have lb1 := sb.2
  have G1 := Lib.hid g1
  have HB := Lib.hid hB
  clear hE g1 sb hB
  go_wp2_with fail
  refine (new_bad w1 (-1) 6 (by decide)).mono ?_; rintro e w1' ⟨rfl, rfl⟩
  go_wp2_with fail
  refine (take_ef w1 _ B 4 F0 2 HE1.out (by decide)).mono ?_; rintro e w2 ⟨rfl, hE, g2⟩
  rw [ev1.1, ev1.2.1]
  rw [ev1.2.2] at hE
  have HE2 := Lib.hid hE
  have G2 := Lib.hid g2
  have lb2 := Nat.lt_of_lt_of_le lb1 g2.size
  clear hE g2
  go_wp2_with fail
  refine name_calls ?_; intro W2 hW2
  have x0 : W2.cell? ⟨w2.heap.size, 0, none⟩ = some (.int .i64 4) := by subst hW2; go_simp
  have x1 : W2.cell? ⟨w2.heap.size, 1, none⟩ = some (.int .i64 2) := by subst hW2; go_simp
  have h2 : Chg (fun _ => False) w2 W2 := by subst hW2; exact (by repeat (first | with_reducible exact Chg.refl _ _ | with_reducible assumption | with_reducible refine Chg.drewN ?_ _ | with_reducible refine Chg.drew ?_ | with_reducible refine Chg.alloc ?_ _ | with_reducible refine Chg.setCell ?_ (by first | (left; rfl) | (right; exact Nat.le_refl _) | (right; simp; done) | (right; omega) | (right; simp at *; omega) | (simp at *; omega)) _ | with_reducible refine Chg.trans ?_ (by with_reducible assumption) (by intro i hi hT; first | exact hT | exact False.elim hT | omega | (simp at *; omega))))
  have z2 : w2.heap.size < W2.heap.size := by subst hW2; simp
  clear hW2
  have K2 := Lib.hid h2
  refine (take_ef W2 _ B 4 F1 3 (HE2.out.chg h2 (fun _ _ h => h.elim) id) (by decide)).mono ?_; rintro e w3 ⟨rfl, hE, g3⟩
  rw [ev2.1, ev2.2.1]
  rw [ev2.2.2] at hE
  have y0 : w3.cell? ⟨w2.heap.size, 0, none⟩ = some (.int .i64 4) := by rw [g3.cell z2 (by omega)]; exact x0
  have y1 : w3.cell? ⟨w2.heap.size, 1, none⟩ = some (.int .i64 2) := by rw [g3.cell z2 (by omega)]; exact x1
  have z3 : w2.heap.size < w3.heap.size := Nat.lt_of_lt_of_le z2 g3.size
  have HE3 := Lib.hid hE
  have G3 := Lib.hid g3
  clear hE g3 x0 x1 h2
  go_wp2_with fail
  refine name_calls ?_; intro W3 hW3
  have p0 : W3.cell? ⟨w3.heap.size, 0, none⟩ = some (.int .i64 6) := by subst hW3; go_simp
  have p1 : W3.cell? ⟨w3.heap.size, 1, none⟩ = some (.int .i64 3) := by subst hW3; go_simp
  have h3 : Chg (fun _ => False) w3 W3 := by subst hW3; exact (by repeat (first | with_reducible exact Chg.refl _ _ | with_reducible assumption | with_reducible refine Chg.drewN ?_ _ | with_reducible refine Chg.drew ?_ | with_reducible refine Chg.alloc ?_ _ | with_reducible refine Chg.setCell ?_ (by first | (left; rfl) | (right; exact Nat.le_refl _) | (right; simp; done) | (right; omega) | (right; simp at *; omega) | (simp at *; omega)) _ | with_reducible refine Chg.trans ?_ (by with_reducible assumption) (by intro i hi hT; first | exact hT | exact False.elim hT | omega | (simp at *; omega))))
  have x0 : W3.cell? ⟨w2.heap.size, 0, none⟩ = some (.int .i64 4) := by rw [h3.cell z3 id]; exact y0
  have x1 : W3.cell? ⟨w2.heap.size, 1, none⟩ = some (.int .i64 2) := by rw [h3.cell z3 id]; exact y1
  have z3' : w3.heap.size < W3.heap.size := by subst hW3; simp
  clear hW3
  have K3 := Lib.hid h3
  refine (give_ef W3 _ B 4 F2 4 2 (HE3.out.chg h3 (fun _ _ h => h.elim) id) (by decide) (by decide)).mono ?_; rintro e w4 ⟨rfl, hE, g4⟩
  rw [ev3.1]
  rw [ev3.2] at hE
  have q0 : w4.cell? ⟨w2.heap.size, 0, none⟩ = some (.int .i64 4) := by rw [g4.cell (by omega) (by omega)]; exact x0
  have q1 : w4.cell? ⟨w2.heap.size, 1, none⟩ = some (.int .i64 2) := by rw [g4.cell (by omega) (by omega)]; exact x1
  have r0 : w4.cell? ⟨w3.heap.size, 0, none⟩ = some (.int .i64 6) := by rw [g4.cell z3' (by omega)]; exact p0
  have r1 : w4.cell? ⟨w3.heap.size, 1, none⟩ = some (.int .i64 3) := by rw [g4.cell z3' (by omega)]; exact p1
  have z4 : w3.heap.size < w4.heap.size := Nat.lt_of_lt_of_le z3' g4.size
  have HE4 := Lib.hid hE
  have G4 := Lib.hid g4
  clear hE g4 x0 x1 p0 p1 y0 y1 h3
  go_wp2_with fail
  refine (take_ef w4 _ B 4 F3 3 HE4.out (by decide)).mono ?_; rintro e w5 ⟨rfl, hE, g5⟩
  rw [ev4.1, ev4.2.1]
  rw [ev4.2.2] at hE
  have q0' : w5.cell? ⟨w2.heap.size, 0, none⟩ = some (.int .i64 4) := by rw [g5.cell (by omega) (by omega)]; exact q0
  have q1' : w5.cell? ⟨w2.heap.size, 1, none⟩ = some (.int .i64 2) := by rw [g5.cell (by omega) (by omega)]; exact q1
  have r0' : w5.cell? ⟨w3.heap.size, 0, none⟩ = some (.int .i64 6) := by rw [g5.cell z4 (by omega)]; exact r0
  have r1' : w5.cell? ⟨w3.heap.size, 1, none⟩ = some (.int .i64 3) := by rw [g5.cell z4 (by omega)]; exact r1
  have z5 : w3.heap.size < w5.heap.size := Nat.lt_of_lt_of_le z4 g5.size
  have HE5 := Lib.hid hE
  have G5 := Lib.hid g5
  clear hE g5 q0 q1 r0 r1
  go_wp2_with fail
  refine name_calls ?_; intro W5 hW5
  have h5 : Chg (fun _ => False) w5 W5 := by subst hW5; exact (by repeat (first | with_reducible exact Chg.refl _ _ | with_reducible assumption | with_reducible refine Chg.drewN ?_ _ | with_reducible refine Chg.drew ?_ | with_reducible refine Chg.alloc ?_ _ | with_reducible refine Chg.setCell ?_ (by first | (left; rfl) | (right; exact Nat.le_refl _) | (right; simp; done) | (right; omega) | (right; simp at *; omega) | (simp at *; omega)) _ | with_reducible refine Chg.trans ?_ (by with_reducible assumption) (by intro i hi hT; first | exact hT | exact False.elim hT | omega | (simp at *; omega))))
  clear hW5
  have K5 := Lib.hid h5
  refine (free_ef W5 _ B 4 F3 (HE5.out.chg h5 (fun _ _ h => h.elim) id)).mono ?_; rintro e w6 ⟨⟨gs, a6, c6, rfl, ho, hs⟩, g6⟩
  obtain rfl := same_uniq hs ev7
  have q0 : w6.cell? ⟨w2.heap.size, 0, none⟩ = some (.int .i64 4) := by rw [g6.cell (by have := h5.size; omega) id, h5.cell (by omega) id]; exact q0'
  have q1 : w6.cell? ⟨w2.heap.size, 1, none⟩ = some (.int .i64 2) := by rw [g6.cell (by have := h5.size; omega) id, h5.cell (by omega) id]; exact q1'
  have r0 : w6.cell? ⟨w3.heap.size, 0, none⟩ = some (.int .i64 6) := by rw [g6.cell (by have := h5.size; omega) id, h5.cell (by omega) id]; exact r0'
  have r1 : w6.cell? ⟨w3.heap.size, 1, none⟩ = some (.int .i64 3) := by rw [g6.cell (by have := h5.size; omega) id, h5.cell (by omega) id]; exact r1'
  have lb5 : B < W5.heap.size := Nat.lt_of_lt_of_le HE5.out.sb.2 h5.size
  obtain ⟨_, _, hf, hc1, hc2, hat⟩ := own_form ho
  injection hf with hf _ hf'
  subst hf hf'
  obtain ⟨q, rfl, hq1, hq2, m0, _⟩ := hat 2 _ (rfl : (flat [(4, 2), (9, 1)])[2]? = some (.int .i64 9))
  obtain ⟨m1, _, _, _⟩ := own_cell ho (j := 3) (rfl : (flat [(4, 2), (9, 1)])[3]? = some (.int .i64 1))
  have HE6 := Lib.hid ((HE5.out.chg h5 (fun _ _ h => h.elim) id).chg g6 (fun _ _ h => h.elim) id)
  have G6 := Lib.hid (h5.trans g6 (fun _ _ h => h))
  have z6 : w3.heap.size < w6.heap.size := by have := h5.size; have := g6.size; omega
  have hqB : q ≠ B := by omega
  clear hat ho hs g6 h5 q0' q1' r0' r1'
  go_wp2_with fail
  refine (claim_ef w6 _ B 4 F3 5 2 HE6.out (by decide) (by decide)).mono ?_; rintro e w7 ⟨rfl, hE, g7⟩
  rw [ev5.1]
  rw [ev5.2.1] at hE
  have q0' : w7.cell? ⟨w2.heap.size, 0, none⟩ = some (.int .i64 4) := by rw [g7.cell (by omega) (by omega)]; exact q0
  have q1' : w7.cell? ⟨w2.heap.size, 1, none⟩ = some (.int .i64 2) := by rw [g7.cell (by omega) (by omega)]; exact q1
  have r0' : w7.cell? ⟨w3.heap.size, 0, none⟩ = some (.int .i64 6) := by rw [g7.cell z6 (by omega)]; exact r0
  have r1' : w7.cell? ⟨w3.heap.size, 1, none⟩ = some (.int .i64 3) := by rw [g7.cell z6 (by omega)]; exact r1
  have m0' : w7.cell? ⟨q, 2, none⟩ = some (.int .i64 9) := by rw [g7.cell hq2 hqB]; exact m0
  have m1' : w7.cell? ⟨q, 3, none⟩ = some (.int .i64 1) := by rw [g7.cell hq2 hqB]; exact m1
  have z7 := g7.size
  have HE7 := Lib.hid hE
  have G7 := Lib.hid g7
  clear hE g7 q0 q1 r0 r1 m0 m1
  go_wp2_with fail
  refine (give_ef w7 _ B 4 F3 4 1 HE7.out (by decide) (by decide)).mono ?_; rintro e w8 ⟨rfl, hE, g8⟩
  rw [ev5.2.2.1]
  rw [ev5.2.2.2] at hE
  have q0 : w8.cell? ⟨w2.heap.size, 0, none⟩ = some (.int .i64 4) := by rw [g8.cell (by omega) (by omega)]; exact q0'
  have q1 : w8.cell? ⟨w2.heap.size, 1, none⟩ = some (.int .i64 2) := by rw [g8.cell (by omega) (by omega)]; exact q1'
  have r0 : w8.cell? ⟨w3.heap.size, 0, none⟩ = some (.int .i64 6) := by rw [g8.cell (by omega) (by omega)]; exact r0'
  have r1 : w8.cell? ⟨w3.heap.size, 1, none⟩ = some (.int .i64 3) := by rw [g8.cell (by omega) (by omega)]; exact r1'
  have m0 : w8.cell? ⟨q, 2, none⟩ = some (.int .i64 9) := by rw [g8.cell (by omega) hqB]; exact m0'
  have m1 : w8.cell? ⟨q, 3, none⟩ = some (.int .i64 1) := by rw [g8.cell (by omega) hqB]; exact m1'
  have HE8 := Lib.hid hE
  have G8 := Lib.hid g8
  clear hE g8 q0' q1' r0' r1' m0' m1'
  go_wp2_with fail
  refine (left_ef w8 _ B 4 F3 HE8.out).mono ?_; rintro e w9 ⟨rfl, g9⟩
  rw [ev6.1]
  have HE9 := Lib.hid (HE8.out.chg g9 (fun _ _ h => h.elim) id)
  have G9 := Lib.hid g9
  clear g9
  go_wp2_with fail
  refine (used_ef w9 _ B 4 F3 7 HE9.out (by decide)).mono ?_; rintro e wA ⟨rfl, gA⟩
  rw [ev6.2.1]
  have HEA := Lib.hid (HE9.out.chg gA (fun _ _ h => h.elim) id)
  have GA := Lib.hid gA
  clear gA
  go_wp2_with fail
  refine (used_ef wA _ B 4 F3 9 HEA.out (by decide)).mono ?_; rintro e wB ⟨rfl, gB⟩
  rw [ev6.2.2]
  have GB := Lib.hid gB
  clear gB
  go_wp2
  go_ret
  have up : ∀ {u v : World}, Chg (fun _ => False) u v → Chg (fun k => k = B) u v := fun h => h.mono (fun _ _ h => h.elim)
  have J : ∀ {u v x : World}, Chg (fun k => k = B) u v → Chg (fun k => k = B) v x → Chg (fun k => k = B) u x := fun h k => h.trans k (fun _ _ h => h)
  have tot : Chg (fun k => k = B) w1 wB := J (J (J (J (J (J (J (J (J (J (J G2.out (up K2.out)) G3.out) (up K3.out)) G4.out) G5.out) (up G6.out)) G7.out) G8.out) (up G9.out)) (up GA.out)) (up GB.out)
  exact ⟨rfl, G1.out.trans tot (fun q hq h => by have := HB.out; omega)⟩
end Go.Proofs.Ytheiodnckjmieaa
