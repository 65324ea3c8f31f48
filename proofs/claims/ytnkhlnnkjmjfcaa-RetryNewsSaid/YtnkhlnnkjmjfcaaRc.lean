/- The laws of retry. -/
import Derived.Test.YtnkhlnnkjmjfcaaRa
namespace Go.Proofs.Ytnkhlnnkjmjfcaa
set_option linter.unusedVariables false
open Go.RowKit

set_option maxHeartbeats 1000000 in
theorem retryNews_any (f fi mo : Int) (w : World) :
    Calls Try.prog 5 #[.int .i64 f, .int .i64 fi, .int .i64 mo] w fun e w' => e = .returned (.bool true) ∧ Below w.heap.size w w' := by
  by_cases h1 : 0 ≤ f ∧ f ≤ 1000 ∧ 1 ≤ fi ∧ fi ≤ mo ∧ mo ≤ 1099511627776
  all_goals by_cases h2 : 1 ≤ f ∧ f ≤ 1000 ∧ 1 ≤ fi ∧ fi ≤ 1099511627776
  all_goals
    have H1 := Lib.hid h1
    have H2 := Lib.hid h2
    clear h1 h2
    go_enter Try.func5, Try.ntmps5
    go_wp2_with fail
    refine (alive_any _).mono ?_; rintro e w1 ⟨rfl, g1⟩
    go_wp2_with fail
  · refine (new_ok _ _ _ _ H1.out).mono ?_; rintro e w2 ⟨rfl, _, _, g2⟩
    go_wp2_with fail
    refine (newFuse_ok _ _ _ H2.out).mono ?_; rintro e w3 ⟨rfl, _, _, g3⟩
    go_wp2_with fail
    refine (rnew_ok _ _ _ _ H1.out).mono ?_; rintro e w4 ⟨rfl, b4⟩
    have g4 := Chg.ofBelow (S := fun _ => False) b4
    go_wp2_with fail
    refine (rnewFuse_ok _ _ _ H2.out).mono ?_; rintro e w5 ⟨rfl, b5⟩
    have g5 := Chg.ofBelow (S := fun _ => False) b5
    clear b4 b5
    go_wp2_with fail
    go_ret
    exact ⟨by first | rfl | simp, Chg.below (by repeat (first | with_reducible exact Chg.refl _ _ | with_reducible assumption | with_reducible refine Chg.drewN ?_ _ | with_reducible refine Chg.drew ?_ | with_reducible refine Chg.alloc ?_ _ | with_reducible refine Chg.setCell ?_ (by first | (left; rfl) | (right; exact Nat.le_refl _) | (right; simp; done) | (right; omega) | (right; simp at *; omega) | (simp at *; omega)) _ | with_reducible refine Chg.trans ?_ (by with_reducible assumption) (by intro i hi hT; first | exact hT | exact False.elim hT | omega | (simp at *; omega))))⟩
  · refine (new_ok _ _ _ _ H1.out).mono ?_; rintro e w2 ⟨rfl, _, _, g2⟩
    go_wp2_with fail
    refine (newFuse_no _ _ _ H2.out).mono ?_; rintro e w3 ⟨rfl, rfl⟩
    go_wp2_with fail
    refine (rnew_ok _ _ _ _ H1.out).mono ?_; rintro e w4 ⟨rfl, b4⟩
    have g4 := Chg.ofBelow (S := fun _ => False) b4
    go_wp2_with fail
    refine (rnewFuse_no _ _ _ H2.out).mono ?_; rintro e w5 ⟨rfl, b5⟩
    have g5 := Chg.ofBelow (S := fun _ => False) b5
    clear b4 b5
    go_wp2_with fail
    go_ret
    exact ⟨by first | rfl | simp, Chg.below (by repeat (first | with_reducible exact Chg.refl _ _ | with_reducible assumption | with_reducible refine Chg.drewN ?_ _ | with_reducible refine Chg.drew ?_ | with_reducible refine Chg.alloc ?_ _ | with_reducible refine Chg.setCell ?_ (by first | (left; rfl) | (right; exact Nat.le_refl _) | (right; simp; done) | (right; omega) | (right; simp at *; omega) | (simp at *; omega)) _ | with_reducible refine Chg.trans ?_ (by with_reducible assumption) (by intro i hi hT; first | exact hT | exact False.elim hT | omega | (simp at *; omega))))⟩
  · refine (new_no _ _ _ _ H1.out).mono ?_; rintro e w2 ⟨rfl, rfl⟩
    go_wp2_with fail
    refine (newFuse_ok _ _ _ H2.out).mono ?_; rintro e w3 ⟨rfl, _, _, g3⟩
    go_wp2_with fail
    refine (rnew_no _ _ _ _ H1.out).mono ?_; rintro e w4 ⟨rfl, b4⟩
    have g4 := Chg.ofBelow (S := fun _ => False) b4
    go_wp2_with fail
    refine (rnewFuse_ok _ _ _ H2.out).mono ?_; rintro e w5 ⟨rfl, b5⟩
    have g5 := Chg.ofBelow (S := fun _ => False) b5
    clear b4 b5
    go_wp2_with fail
    go_ret
    exact ⟨by first | rfl | simp, Chg.below (by repeat (first | with_reducible exact Chg.refl _ _ | with_reducible assumption | with_reducible refine Chg.drewN ?_ _ | with_reducible refine Chg.drew ?_ | with_reducible refine Chg.alloc ?_ _ | with_reducible refine Chg.setCell ?_ (by first | (left; rfl) | (right; exact Nat.le_refl _) | (right; simp; done) | (right; omega) | (right; simp at *; omega) | (simp at *; omega)) _ | with_reducible refine Chg.trans ?_ (by with_reducible assumption) (by intro i hi hT; first | exact hT | exact False.elim hT | omega | (simp at *; omega))))⟩
  · refine (new_no _ _ _ _ H1.out).mono ?_; rintro e w2 ⟨rfl, rfl⟩
    go_wp2_with fail
    refine (newFuse_no _ _ _ H2.out).mono ?_; rintro e w3 ⟨rfl, rfl⟩
    go_wp2_with fail
    refine (rnew_no _ _ _ _ H1.out).mono ?_; rintro e w4 ⟨rfl, b4⟩
    have g4 := Chg.ofBelow (S := fun _ => False) b4
    go_wp2_with fail
    refine (rnewFuse_no _ _ _ H2.out).mono ?_; rintro e w5 ⟨rfl, b5⟩
    have g5 := Chg.ofBelow (S := fun _ => False) b5
    clear b4 b5
    go_wp2_with fail
    go_ret
    exact ⟨by first | rfl | simp, Chg.below (by repeat (first | with_reducible exact Chg.refl _ _ | with_reducible assumption | with_reducible refine Chg.drewN ?_ _ | with_reducible refine Chg.drew ?_ | with_reducible refine Chg.alloc ?_ _ | with_reducible refine Chg.setCell ?_ (by first | (left; rfl) | (right; exact Nat.le_refl _) | (right; simp; done) | (right; omega) | (right; simp at *; omega) | (simp at *; omega)) _ | with_reducible refine Chg.trans ?_ (by with_reducible assumption) (by intro i hi hT; first | exact hT | exact False.elim hT | omega | (simp at *; omega))))⟩

/-! RetryRests -/
set_option maxRecDepth 100000 in
set_option maxHeartbeats 2000000 in
theorem retryRests_any (fl a0 m0 : Int) (w : World) (hf : 0 ≤ fl ∧ fl ≤ 255) (ha : 0 ≤ a0 ∧ a0 ≤ 65535) (hm : 0 ≤ m0 ∧ m0 ≤ 65535) :
    Calls Try.prog 4 #[.int .u8 fl, .int .u16 a0, .int .u16 m0] w fun e w' => e = .returned (.bool true) ∧ Below w.heap.size w w' := by
  have hn : 0 ≤ fl % 60 ∧ fl % 60 < 60 := by omega
  have hr := rst_bd (1 + a0) (1 + a0 + m0) (by omega)
  have HR := Lib.hid hr
  clear hr
  go_enter Try.func4, Try.ntmps4
  go_wp2_with fail
  refine (alive_any _).mono ?_; rintro e w1 ⟨rfl, g1⟩
  go_wp2_with fail
  refine (new_ok _ _ _ _ (by omega)).mono ?_; rintro e w2 ⟨rfl, t2, z2, g2⟩
  have T2 := Lib.hid t2
  clear t2
  go_wp2_with fail
  go_loopw [12, 13, 14] (fun nw ls i wr => ∃ (k : Nat) (N L R : Int), (k : Int) ≤ fl % 60 ∧ nw = .int .i64 N ∧ ls = .int .i64 L ∧ i = .int .i64 (↑k : Int) ∧ 0 ≤ N ∧ N ≤ 200000 * (k : Int) ∧ 1 ≤ L ∧ L ≤ R ∧ R ≤ 2 * L ∧ R ≤ 1 + a0 + m0 ∧ Hid (R = rst (1 + a0) (1 + a0 + m0) k) ∧ Hid (Tm wr w1.heap.size (fl % 60) (1 + a0) (1 + a0 + m0) ↑k R N) ∧ Chg (fun _ => False) w wr) (fun _ _ i _ => 60 - (intOf i).toNat)
  case atStart => exact ⟨0, 0, 1 + a0, 1 + a0, by omega, rfl, rfl, rfl, by omega, by omega, by omega, by omega, by omega, by omega, rfl, T2.out, (by repeat (first | with_reducible exact Chg.refl _ _ | with_reducible assumption | with_reducible refine Chg.drewN ?_ _ | with_reducible refine Chg.drew ?_ | with_reducible refine Chg.alloc ?_ _ | with_reducible refine Chg.setCell ?_ (by first | (left; rfl) | (right; exact Nat.le_refl _) | (right; simp; done) | (right; omega) | (right; simp at *; omega) | (simp at *; omega)) _ | with_reducible refine Chg.trans ?_ (by with_reducible assumption) (by intro i hi hT; first | exact hT | exact False.elim hT | omega | (simp at *; omega))))⟩
  case round =>
    obtain ⟨k, N, L, R, hk, rfl, rfl, rfl, h1, h2, h3, h4, h5, h6, HE, HT, gg⟩ := hrel
    have hb1 : w1.heap.size < wr.heap.size := cell_lt HT.out.c0
    have gz1 := g1.size
    by_cases hlt : (k : Int) < fl % 60
    · have ht : tk N = N := by unfold tk; omega
      have k1 : tk (N + R - 1) = N + R - 1 := by unfold tk; omega
      have k2 : tk (N + R) = N + R := by unfold tk; omega
      have HT2 : Hid (Tm wr w1.heap.size (fl % 60) (1 + a0) (1 + a0 + m0) ↑k R N) := HT
      have hmx : max (fl % 60 - (↑k + 1)) 0 = fl % 60 - 1 - ↑k := by omega
      have dA : decide (↑k + 1 ≤ fl % 60 ∧ N + R ≤ tk (N + R - 1)) = false := by rw [k1]; simp; omega
      have dB : decide (↑k + 1 ≤ fl % 60 ∧ N + R ≤ tk (N + R)) = true := by rw [k2]; simp; omega
      by_cases h0 : k = 0
      · subst h0
        have hRa : R = 1 + a0 := HE.out
        subst hRa
        clear dA dB hmx
        have hmx0 : max (fl % 60 - 1) 0 = fl % 60 - 1 := by omega
        have hc : N + (1 + a0) - N = (1 + a0) := by omega
        go_wp2_with fail
        refine (fail_ok _ _ _ _ _ _ _ _ _ HT2.out (by omega) (by omega) (by omega) (by omega) (by omega)).mono ?_; rintro e w3 ⟨rfl, t3, g3⟩
        have T3 : Hid (Tm w3 w1.heap.size (fl % 60) (1 + a0) (1 + a0 + m0) (↑(0 : Nat) + 1) (min (2 * (1 + a0)) (1 + a0 + m0)) (N + (1 + a0))) := by rw [ht] at t3; exact t3
        clear t3
        go_wp2_with fail
        refine (ready_any _ _ _ _ _ _ _ _ _ T3.out).mono ?_; rintro e w4 ⟨rfl, n4, rfl⟩
        go_wp2_with fail
        refine (ready_any _ _ _ _ _ _ _ _ _ (T3.out.drewN _)).mono ?_; rintro e w4 ⟨rfl, n5, rfl⟩
        go_wp2_with fail
        refine (left_any _ _ _ _ _ _ _ _ (T3.out.drewN _) (by omega)).mono ?_; rintro e w4 ⟨rfl, n6, rfl⟩
        go_wp2_with fail
        go_roundw
        case rel => exact ⟨(0 : Nat) + 1, N + (1 + a0), (1 + a0), min (2 * (1 + a0)) (1 + a0 + m0), by simp; omega, rfl, rfl, by go_num, by omega, by simp; omega, by omega, by omega, by omega, by omega, by show _ = min (2 * rst _ _ (0 : Nat)) _; rw [← HE.out], T3.out.drewN _, (by repeat (first | with_reducible exact Chg.refl _ _ | with_reducible assumption | with_reducible refine Chg.drewN ?_ _ | with_reducible refine Chg.drew ?_ | with_reducible refine Chg.alloc ?_ _ | with_reducible refine Chg.setCell ?_ (by first | (left; rfl) | (right; exact Nat.le_refl _) | (right; simp; done) | (right; omega) | (right; simp at *; omega) | (simp at *; omega)) _ | with_reducible refine Chg.trans ?_ (by with_reducible assumption) (by intro i hi hT; first | exact hT | exact False.elim hT | omega | (simp at *; omega))))⟩
        case measure => simp [intOf] <;> omega
      · have hk0 : ((k : Int) == 0) = false := by simp; omega
        clear k1 k2
        have hc : N + R - N = R := by omega
        go_wp2_with fail
        refine (fail_ok _ _ _ _ _ _ _ _ _ HT2.out (by omega) (by omega) (by omega) (by omega) (by omega)).mono ?_; rintro e w3 ⟨rfl, t3, g3⟩
        have T3 : Hid (Tm w3 w1.heap.size (fl % 60) (1 + a0) (1 + a0 + m0) (↑k + 1) (min (2 * R) (1 + a0 + m0)) (N + R)) := by rw [ht] at t3; exact t3
        clear t3
        go_wp2_with fail
        refine (ready_any _ _ _ _ _ _ _ _ _ T3.out).mono ?_; rintro e w4 ⟨rfl, n4, rfl⟩
        go_wp2_with fail
        refine (ready_any _ _ _ _ _ _ _ _ _ (T3.out.drewN _)).mono ?_; rintro e w4 ⟨rfl, n5, rfl⟩
        go_wp2_with fail
        refine (left_any _ _ _ _ _ _ _ _ (T3.out.drewN _) (by omega)).mono ?_; rintro e w4 ⟨rfl, n6, rfl⟩
        go_wp2_with fail
        go_roundw
        case rel => exact ⟨k + 1, N + R, R, min (2 * R) (1 + a0 + m0), by simp; omega, rfl, rfl, by go_num, by omega, by simp; omega, by omega, by omega, by omega, by omega, by show _ = min (2 * rst _ _ k) _; rw [← HE.out], T3.out.drewN _, (by repeat (first | with_reducible exact Chg.refl _ _ | with_reducible assumption | with_reducible refine Chg.drewN ?_ _ | with_reducible refine Chg.drew ?_ | with_reducible refine Chg.alloc ?_ _ | with_reducible refine Chg.setCell ?_ (by first | (left; rfl) | (right; exact Nat.le_refl _) | (right; simp; done) | (right; omega) | (right; simp at *; omega) | (simp at *; omega)) _ | with_reducible refine Chg.trans ?_ (by with_reducible assumption) (by intro i hi hT; first | exact hT | exact False.elim hT | omega | (simp at *; omega))))⟩
        case measure => simp [intOf] <;> omega
    · have e1 : (k : Int) = fl % 60 := by omega
      have HT2 : Hid (Tm wr w1.heap.size (fl % 60) (1 + a0) (1 + a0 + m0) (fl % 60) R N) := by rw [e1] at HT; exact HT
      clear e1
      have dA : decide (fl % 60 + 1 ≤ fl % 60 ∧ N ≤ tk 1099511627776) = false := by simp; omega
      have dB : decide ((0 : Int) ≤ fl % 60 ∧ (0 : Int) ≤ tk 0) = true := by simp; exact ⟨hn.1, (tk_bd 0).1⟩
      have m1 : max (fl % 60 - (fl % 60 + 1)) 0 = 0 := by omega
      have m2 : max (fl % 60) 0 = fl % 60 := by omega
      go_wp2_with fail
      refine (fail_last _ _ _ _ _ _ _ _ _ HT2.out rfl (by omega) (by omega)).mono ?_; rintro e w3 ⟨rfl, t3, g3⟩
      have T3 := Lib.hid t3
      clear t3
      go_wp2_with fail
      refine (ready_any _ _ _ _ _ _ _ _ _ T3.out).mono ?_; rintro e w4 ⟨rfl, n4, rfl⟩
      go_wp2_with fail
      refine (left_any _ _ _ _ _ _ _ _ (T3.out.drewN _) (by omega)).mono ?_; rintro e w4 ⟨rfl, n6, rfl⟩
      go_wp2_with fail
      refine (good_any _ _ _ _ _ _ _ _ (T3.out.drewN _)).mono ?_; rintro e w5 ⟨rfl, t5, g5⟩
      have T5 := Lib.hid t5
      clear t5
      go_wp2_with fail
      refine (ready_any _ _ _ _ _ _ _ _ _ T5.out).mono ?_; rintro e w4 ⟨rfl, n7, rfl⟩
      go_wp2_with fail
      refine (left_any _ _ _ _ _ _ _ _ (T5.out.drewN _) (by omega)).mono ?_; rintro e w4 ⟨rfl, n8, rfl⟩
      go_wp2_with fail

      go_ret
      exact ⟨by first | rfl | simp, Chg.below (by repeat (first | with_reducible exact Chg.refl _ _ | with_reducible assumption | with_reducible refine Chg.drewN ?_ _ | with_reducible refine Chg.drew ?_ | with_reducible refine Chg.alloc ?_ _ | with_reducible refine Chg.setCell ?_ (by first | (left; rfl) | (right; exact Nat.le_refl _) | (right; simp; done) | (right; omega) | (right; simp at *; omega) | (simp at *; omega)) _ | with_reducible refine Chg.trans ?_ (by with_reducible assumption) (by intro i hi hT; first | exact hT | exact False.elim hT | omega | (simp at *; omega))))⟩


set_option maxRecDepth 100000 in
set_option maxHeartbeats 2000000 in
theorem retryBlows_any (fl r0 t0 : Int) (w : World) (hf : 0 ≤ fl ∧ fl ≤ 255) (hr : 0 ≤ r0 ∧ r0 ≤ 65535) (ht : 0 ≤ t0 ∧ t0 ≤ 65535) :
    Calls Try.prog 7 #[.int .u8 fl, .int .u16 r0, .int .u16 t0] w fun e w' => e = .returned (.bool true) ∧ Below w.heap.size w w' := by
  have hn : 0 ≤ fl % 20 ∧ fl % 20 < 20 := by omega
  go_enter Try.func7, Try.ntmps7
  go_wp2_with fail
  refine (alive_any _).mono ?_; rintro e w1 ⟨rfl, g1⟩
  go_wp2_with fail
  refine (newFuse_ok _ _ _ (by omega)).mono ?_; rintro e w2 ⟨rfl, t2, z2, g2⟩
  have T2 := Lib.hid t2
  clear t2
  have gz1 := g1.size
  have k1 : tk t0 = t0 := by unfold tk; omega
  have k2 : tk (t0 + (1 + r0) - 1) = t0 + (1 + r0) - 1 := by unfold tk; omega
  have k3 : tk (t0 + (1 + r0)) = t0 + (1 + r0) := by unfold tk; omega
  have k4 : tk (t0 + 2 * (1 + r0) - 1) = t0 + 2 * (1 + r0) - 1 := by unfold tk; omega
  have k5 : tk (t0 + 2 * (1 + r0)) = t0 + 2 * (1 + r0) := by unfold tk; omega
  go_wp2_with fail
  go_loopw [12] (fun i wr => ∃ k : Nat, (k : Int) ≤ fl % 20 ∧ i = .int .i64 ((k : Int) + 1) ∧ Hid (Fz wr w1.heap.size (1 + fl % 20) (1 + r0) k 0) ∧ Chg (fun _ => False) w wr) (fun i _ => 30 - (intOf i).toNat)
  case atStart => exact ⟨0, by omega, rfl, T2.out, (by repeat (first | with_reducible exact Chg.refl _ _ | with_reducible assumption | with_reducible refine Chg.drewN ?_ _ | with_reducible refine Chg.drew ?_ | with_reducible refine Chg.alloc ?_ _ | with_reducible refine Chg.setCell ?_ (by first | (left; rfl) | (right; exact Nat.le_refl _) | (right; simp; done) | (right; omega) | (right; simp at *; omega) | (simp at *; omega)) _ | with_reducible refine Chg.trans ?_ (by with_reducible assumption) (by intro i hi hT; first | exact hT | exact False.elim hT | omega | (simp at *; omega))))⟩
  case round =>
    obtain ⟨k, hk, rfl, HT, gg⟩ := hrel
    have hb1 : w1.heap.size < wr.heap.size := cell_lt HT.out.c0
    by_cases hlt : (k : Int) < fl % 20
    · have d1 : decide ((0 : Int) ≤ t0) = true := by simp; exact ht.1
      go_wp2_with fail
      refine (tell_more _ _ _ _ _ _ _ HT.out (by omega) (by omega) (by omega) (by omega)).mono ?_; rintro e w3 ⟨rfl, t3, g3⟩
      have T3 := Lib.hid t3
      clear t3
      go_wp2_with fail
      refine (may_any _ _ _ _ _ _ _ T3.out).mono ?_; rintro e w4 ⟨rfl, n4, rfl⟩
      go_wp2_with fail
      go_roundw
      case rel => exact ⟨k + 1, by simp; omega, by go_num, T3.out.drewN _, (by repeat (first | with_reducible exact Chg.refl _ _ | with_reducible assumption | with_reducible refine Chg.drewN ?_ _ | with_reducible refine Chg.drew ?_ | with_reducible refine Chg.alloc ?_ _ | with_reducible refine Chg.setCell ?_ (by first | (left; rfl) | (right; exact Nat.le_refl _) | (right; simp; done) | (right; omega) | (right; simp at *; omega) | (simp at *; omega)) _ | with_reducible refine Chg.trans ?_ (by with_reducible assumption) (by intro i hi hT; first | exact hT | exact False.elim hT | omega | (simp at *; omega))))⟩
      case measure => simp [intOf]; omega
    · have e1 : (k : Int) = fl % 20 := by omega
      have e2 : (k : Int) + 1 = 1 + fl % 20 := by omega
      have H1 := Lib.hid e1
      have H2 := Lib.hid e2
      clear e1 e2
      go_wp2_with fail
      refine (tell_blow _ _ _ _ _ _ _ HT.out (by omega) (by omega) H2.out (by omega)).mono ?_; rintro e w3 ⟨rfl, t3, g3⟩
      have T3 := Lib.hid t3
      clear t3
      go_wp2_with fail
      refine (may_any _ _ _ _ _ _ _ T3.out).mono ?_; rintro e w4 ⟨rfl, n4, rfl⟩
      go_wp2_with fail
      refine (may_any _ _ _ _ _ _ _ (T3.out.drewN _)).mono ?_; rintro e w4 ⟨rfl, n5, rfl⟩
      go_wp2_with fail
      refine (may_any _ _ _ _ _ _ _ (T3.out.drewN _)).mono ?_; rintro e w4 ⟨rfl, n6, rfl⟩
      go_wp2_with fail
      refine (tell_again _ _ _ _ _ _ _ (T3.out.drewN _) (by omega) (by omega) H2.out (by omega)).mono ?_; rintro e w4 ⟨rfl, t4, g4⟩
      have T4 := Lib.hid t4
      clear t4
      go_wp2_with fail
      refine (may_any _ _ _ _ _ _ _ T4.out).mono ?_; rintro e w5 ⟨rfl, n7, rfl⟩
      go_wp2_with fail
      refine (tell_good _ _ _ _ _ _ _ (T4.out.drewN _)).mono ?_; rintro e w5 ⟨rfl, t5, g5⟩
      have T5 := Lib.hid t5
      clear t5
      by_cases hone : fl % 20 = 0
      · have b1 : (1 + fl % 20 == 1) = true := by simp [hone]
        clear hone
        go_wp2_with fail
        refine (tell_good _ _ _ _ _ _ _ T5.out).mono ?_; rintro e w6 ⟨rfl, t6, g6⟩
        have T6 := Lib.hid t6
        clear t6
        go_wp2_with fail
        refine (may_any _ _ _ _ _ _ _ T6.out).mono ?_; rintro e w7 ⟨rfl, n8, rfl⟩
        go_wp2_with fail
        go_ret
        exact ⟨ret_bool (by simp; omega), Chg.below (by repeat (first | with_reducible exact Chg.refl _ _ | with_reducible assumption | with_reducible refine Chg.drewN ?_ _ | with_reducible refine Chg.drew ?_ | with_reducible refine Chg.alloc ?_ _ | with_reducible refine Chg.setCell ?_ (by first | (left; rfl) | (right; exact Nat.le_refl _) | (right; simp; done) | (right; omega) | (right; simp at *; omega) | (simp at *; omega)) _ | with_reducible refine Chg.trans ?_ (by with_reducible assumption) (by intro i hi hT; first | exact hT | exact False.elim hT | omega | (simp at *; omega))))⟩
      · have b1 : (1 + fl % 20 == 1) = false := by simp; omega
        have hp : 0 + 1 < 1 + fl % 20 := by omega
        clear hone
        go_wp2_with fail
        refine (tell_more _ _ _ _ _ _ _ T5.out (by omega) (by omega) hp (by omega)).mono ?_; rintro e w6 ⟨rfl, t6, g6⟩
        have T6 := Lib.hid t6
        clear t6
        go_wp2_with fail
        refine (may_any _ _ _ _ _ _ _ T6.out).mono ?_; rintro e w7 ⟨rfl, n8, rfl⟩
        go_wp2_with fail
        go_ret
        exact ⟨ret_bool (by simp; omega), Chg.below (by repeat (first | with_reducible exact Chg.refl _ _ | with_reducible assumption | with_reducible refine Chg.drewN ?_ _ | with_reducible refine Chg.drew ?_ | with_reducible refine Chg.alloc ?_ _ | with_reducible refine Chg.setCell ?_ (by first | (left; rfl) | (right; exact Nat.le_refl _) | (right; simp; done) | (right; omega) | (right; simp at *; omega) | (simp at *; omega)) _ | with_reducible refine Chg.trans ?_ (by with_reducible assumption) (by intro i hi hT; first | exact hT | exact False.elim hT | omega | (simp at *; omega))))⟩
end Go.Proofs.Ytnkhlnnkjmjfcaa
