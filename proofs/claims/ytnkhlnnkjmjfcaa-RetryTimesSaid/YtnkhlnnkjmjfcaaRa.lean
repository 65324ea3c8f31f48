/- The chapter's example, as the laws of retry ask it. -/
import Derived.Test.YtnkhlnnkjmjfcaaRr
namespace Go.Proofs.Ytnkhlnnkjmjfcaa
set_option linter.unusedVariables false
open Go.RowKit

/-- The example's timer, so many failures on. -/
def Ex (w : World) (b k : Nat) : Prop :=
  (k = 0 ∧ Tm w b 3 2 5 0 2 0) ∨ (k = 1 ∧ Tm w b 3 2 5 1 4 12) ∨ (k = 2 ∧ Tm w b 3 2 5 2 5 16) ∨ (k = 3 ∧ Tm w b 3 2 5 3 5 21) ∨ (k = 4 ∧ Tm w b 3 2 5 4 5 21)

theorem num_2 : min (2 * 2) 5 = (4 : Int) := by decide
theorem num_4 : min (2 * 4) 5 = (5 : Int) := by decide
theorem num_5 : min (2 * 5) 5 = (5 : Int) := by decide

set_option maxHeartbeats 1000000 in
theorem alive_any (w : World) :
    Calls Try.prog 8 #[] w fun e w' => e = .returned (.bool true) ∧ Chg (fun _ => False) w w' := by
  go_enter Try.func8, Try.ntmps8
  go_wp2_with fail
  refine (new_ok 3 2 5 _ (by omega)).mono ?_; rintro e w1 ⟨rfl, t1, z1, g1⟩
  go_wp2_with fail
  have H1 := Lib.hid t1
  clear t1
  go_loopw [15] (fun i wr => ∃ k : Nat, i = .int .i64 (↑k : Int) ∧ Ex wr w.heap.size k ∧ wr.cell? ⟨w1.heap.size, 0, none⟩ = some (.int .i64 10) ∧ wr.cell? ⟨w1.heap.size, 1, none⟩ = some (.int .i64 12) ∧ wr.cell? ⟨w1.heap.size, 2, none⟩ = some (.int .i64 16) ∧ wr.cell? ⟨w1.heap.size, 3, none⟩ = some (.int .i64 21) ∧ w1.heap.size < wr.heap.size ∧ Chg (fun _ => False) w wr) (fun i _ => 4 - (intOf i).toNat)
  case atStart =>
    exact ⟨0, rfl, .inl ⟨rfl, H1.out.chg ((Chg.refl (fun _ => False) _).alloc _) id⟩, by go_simp, by go_simp, by go_simp, by go_simp, by simp, (by repeat (first | with_reducible exact Chg.refl _ _ | with_reducible assumption | with_reducible refine Chg.drewN ?_ _ | with_reducible refine Chg.drew ?_ | with_reducible refine Chg.alloc ?_ _ | with_reducible refine Chg.setCell ?_ (by first | (left; rfl) | (right; exact Nat.le_refl _) | (right; simp; done) | (right; omega) | (right; simp at *; omega) | (simp at *; omega)) _ | with_reducible refine Chg.trans ?_ (by with_reducible assumption) (by intro i hi hT; first | exact hT | exact False.elim hT | omega | (simp at *; omega))))⟩
  case round =>
    obtain ⟨k, rfl, hx, q0, q1, q2, q3, zz, gg⟩ := hrel
    have n2 := num_2
    have k10 : tk 10 = 10 := by decide
    have k12 : tk 12 = 12 := by decide
    have k16 : tk 16 = 16 := by decide
    have k21 : tk 21 = 21 := by decide
    have n4 := num_4
    have n5 := num_5
    have hb : w.heap.size ≠ w1.heap.size := by omega
    rcases hx with ⟨rfl, hx⟩ | ⟨rfl, hx⟩ | ⟨rfl, hx⟩ | ⟨rfl, hx⟩ | ⟨rfl, hx⟩
    · have H := Lib.hid hx; clear hx H1
      go_wp2_with fail
      refine (fail_ok _ 3 2 5 0 2 0 10 _ H.out (by omega) (by omega) (by omega) (by omega) (by omega)).mono ?_; rintro e w2 ⟨rfl, t2, g2⟩
      have T2 : Hid (Tm w2 w.heap.size 3 2 5 1 4 12) := t2
      have cS := fun o => g2.cell zz (Ne.symm hb) o
      have z2 : w1.heap.size < w2.heap.size := Nat.lt_of_lt_of_le zz g2.size
      clear t2 H
      go_wp2_with fail
      go_roundw
      case rel => exact ⟨1, by go_num, .inr (.inl ⟨rfl, T2.out.chg ((Chg.refl (fun _ => False) _).alloc _) id⟩), by go_simp, by go_simp, by go_simp, by go_simp, by (simp; omega), (by repeat (first | with_reducible exact Chg.refl _ _ | with_reducible assumption | with_reducible refine Chg.drewN ?_ _ | with_reducible refine Chg.drew ?_ | with_reducible refine Chg.alloc ?_ _ | with_reducible refine Chg.setCell ?_ (by first | (left; rfl) | (right; exact Nat.le_refl _) | (right; simp; done) | (right; omega) | (right; simp at *; omega) | (simp at *; omega)) _ | with_reducible refine Chg.trans ?_ (by with_reducible assumption) (by intro i hi hT; first | exact hT | exact False.elim hT | omega | (simp at *; omega))))⟩
      case measure => simp [intOf]
    · have H := Lib.hid hx; clear hx H1
      go_wp2_with fail
      refine (fail_ok _ 3 2 5 1 4 12 12 _ H.out (by omega) (by omega) (by omega) (by omega) (by omega)).mono ?_; rintro e w2 ⟨rfl, t2, g2⟩
      have T2 : Hid (Tm w2 w.heap.size 3 2 5 2 5 16) := t2
      have cS := fun o => g2.cell zz (Ne.symm hb) o
      have z2 : w1.heap.size < w2.heap.size := Nat.lt_of_lt_of_le zz g2.size
      clear t2 H
      go_wp2_with fail
      go_roundw
      case rel => exact ⟨2, by go_num, .inr (.inr (.inl ⟨rfl, T2.out.chg ((Chg.refl (fun _ => False) _).alloc _) id⟩)), by go_simp, by go_simp, by go_simp, by go_simp, by (simp; omega), (by repeat (first | with_reducible exact Chg.refl _ _ | with_reducible assumption | with_reducible refine Chg.drewN ?_ _ | with_reducible refine Chg.drew ?_ | with_reducible refine Chg.alloc ?_ _ | with_reducible refine Chg.setCell ?_ (by first | (left; rfl) | (right; exact Nat.le_refl _) | (right; simp; done) | (right; omega) | (right; simp at *; omega) | (simp at *; omega)) _ | with_reducible refine Chg.trans ?_ (by with_reducible assumption) (by intro i hi hT; first | exact hT | exact False.elim hT | omega | (simp at *; omega))))⟩
      case measure => simp [intOf]
    · have H := Lib.hid hx; clear hx H1
      go_wp2_with fail
      refine (fail_ok _ 3 2 5 2 5 16 16 _ H.out (by omega) (by omega) (by omega) (by omega) (by omega)).mono ?_; rintro e w2 ⟨rfl, t2, g2⟩
      have T2 : Hid (Tm w2 w.heap.size 3 2 5 3 5 21) := t2
      have cS := fun o => g2.cell zz (Ne.symm hb) o
      have z2 : w1.heap.size < w2.heap.size := Nat.lt_of_lt_of_le zz g2.size
      clear t2 H
      go_wp2_with fail
      go_roundw
      case rel => exact ⟨3, by go_num, .inr (.inr (.inr (.inl ⟨rfl, T2.out.chg ((Chg.refl (fun _ => False) _).alloc _) id⟩))), by go_simp, by go_simp, by go_simp, by go_simp, by (simp; omega), (by repeat (first | with_reducible exact Chg.refl _ _ | with_reducible assumption | with_reducible refine Chg.drewN ?_ _ | with_reducible refine Chg.drew ?_ | with_reducible refine Chg.alloc ?_ _ | with_reducible refine Chg.setCell ?_ (by first | (left; rfl) | (right; exact Nat.le_refl _) | (right; simp; done) | (right; omega) | (right; simp at *; omega) | (simp at *; omega)) _ | with_reducible refine Chg.trans ?_ (by with_reducible assumption) (by intro i hi hT; first | exact hT | exact False.elim hT | omega | (simp at *; omega))))⟩
      case measure => simp [intOf]
    · have H := Lib.hid hx; clear hx H1
      go_wp2_with fail
      refine (fail_last _ 3 2 5 3 5 21 21 _ H.out rfl (by omega) (by omega)).mono ?_; rintro e w2 ⟨rfl, t2, g2⟩
      have T2 : Hid (Tm w2 w.heap.size 3 2 5 4 5 21) := t2
      have cS := fun o => g2.cell zz (Ne.symm hb) o
      have z2 : w1.heap.size < w2.heap.size := Nat.lt_of_lt_of_le zz g2.size
      clear t2 H
      go_wp2_with fail
      go_roundw
      case rel => exact ⟨4, by go_num, .inr (.inr (.inr (.inr ⟨rfl, T2.out.chg ((Chg.refl (fun _ => False) _).alloc _) id⟩))), by go_simp, by go_simp, by go_simp, by go_simp, by (simp; omega), (by repeat (first | with_reducible exact Chg.refl _ _ | with_reducible assumption | with_reducible refine Chg.drewN ?_ _ | with_reducible refine Chg.drew ?_ | with_reducible refine Chg.alloc ?_ _ | with_reducible refine Chg.setCell ?_ (by first | (left; rfl) | (right; exact Nat.le_refl _) | (right; simp; done) | (right; omega) | (right; simp at *; omega) | (simp at *; omega)) _ | with_reducible refine Chg.trans ?_ (by with_reducible assumption) (by intro i hi hT; first | exact hT | exact False.elim hT | omega | (simp at *; omega))))⟩
      case measure => simp [intOf]
    · have H := Lib.hid hx; clear hx H1
      go_wp2_with fail
      have e1 : decide ((4 : Int) ≤ 3 ∧ (21 : Int) ≤ tk 100) = false := by simp
      have e2 : max ((3 : Int) - 4) 0 = 0 := by decide
      refine (ready_any _ _ _ _ _ _ _ _ _ H.out).mono ?_; rintro e w2 ⟨rfl, n, rfl⟩
      go_wp2_with fail
      refine (left_any _ _ _ _ _ _ _ _ (H.out.drewN n) (by omega)).mono ?_; rintro e w2 ⟨rfl, n', rfl⟩
      go_wp2_with fail
      go_ret
      exact ⟨rfl, (by repeat (first | with_reducible exact Chg.refl _ _ | with_reducible assumption | with_reducible refine Chg.drewN ?_ _ | with_reducible refine Chg.drew ?_ | with_reducible refine Chg.alloc ?_ _ | with_reducible refine Chg.setCell ?_ (by first | (left; rfl) | (right; exact Nat.le_refl _) | (right; simp; done) | (right; omega) | (right; simp at *; omega) | (simp at *; omega)) _ | with_reducible refine Chg.trans ?_ (by with_reducible assumption) (by intro i hi hT; first | exact hT | exact False.elim hT | omega | (simp at *; omega))))⟩

end Go.Proofs.Ytnkhlnnkjmjfcaa
