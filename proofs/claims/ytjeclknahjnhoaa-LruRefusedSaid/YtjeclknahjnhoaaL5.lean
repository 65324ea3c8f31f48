/- The law Refused. (Printed by genlaws.py.) -/
import Derived.Test.YtjeclknahjnhoaaLi
namespace Go.Proofs.Ytjeclknahjnhoaa
set_option linter.unusedVariables false
open Go.RowKit

set_option maxHeartbeats 4000000 in
set_option maxRecDepth 100000 in
theorem lruRefused_any (most : Int) (v : Value) (l : List (Int × Int × Int)) (v2 : Value) (l2 : List (Int × Int × Int)) (w : World) (hm : (Lit.int .i64 most).wf = true) (hL : IsL3 .i64 .i64 .i64 w v l) (hL2 : IsL3 .i64 .i64 .i64 w v2 l2) :
    Calls Try.prog 9 #[.int .i64 most, v, v2] w fun e w' => e = .returned (.bool true) ∧ Below w.heap.size w w' := by
  cases hbad : badRun most l.length with
  | true =>
    obtain ⟨hwf, a, cap, rfl, hlen, hc⟩ := hL
    have HBAD := Lib.hid hbad
    clear hwf hc hbad
    go_enter Try.func9, Try.ntmps9
    go_wp2_with fail
    refine (run_no w most a l.length cap HBAD.out hlen).mono ?_; rintro e w1 ⟨r, rfl, g1⟩
    have G1 := Lib.hid g1
    clear g1
    go_wp2_with fail
    refine (awake_any w1).mono ?_; rintro e w2 ⟨rfl, g2⟩
    have G2 := Lib.hid (G1.out.trans g2 fun _ _ h => h)
    clear g2
    go_wp2_with fail
    refine (awake_any w2).mono ?_; rintro e w3 ⟨rfl, g3⟩
    have G3 := Lib.hid (G2.out.trans g3 fun _ _ h => h)
    clear g3
    go_wp2
    go_ret
    exact ⟨rfl, Chg.below G3.out⟩
  | false =>
    have HBAD := Lib.hid hbad
    clear hbad
    obtain ⟨hwf2, a2, cap2, rfl, hlen2, hc2⟩ := hL2
    have HC2 := Lib.hid hc2
    have HWF2 := Lib.hid hwf2
    clear hc2 hwf2
    go_enter Try.func9, Try.ntmps9
    go_wp2_with fail
    refine (run_ok w most v l HBAD.out hL).mono ?_; rintro e w1 ⟨b, r, T, K, rfl, hP1⟩
    have HP1 := Lib.hid hP1
    clear hP1
    go_wp2_with fail
    refine (awake_any w1).mono ?_; rintro e w2 ⟨rfl, g2⟩
    have HP := Lib.hid (HP1.out.still g2)
    clear g2 HP1
    by_cases h40 : l2.length ≤ 40
    rotate_left
    · have q40 : decide ((40 : Int) < (l2.length : Int)) = true := by simp; omega
      have q41 : (40 : Int) < (l2.length : Int) := by omega
      go_wp2_with fail
      refine (awake_any w2).mono ?_; rintro e w3 ⟨rfl, g3⟩
      have G3 := Lib.hid (HP.out.g.trans g3 fun _ _ h => h)
      clear g3
      go_wp2
      go_ret
      exact ⟨rfl, Chg.below G3.out⟩
    have q40 : decide ((40 : Int) < (l2.length : Int)) = false := by simp; omega
    go_wp2_with fail
    refine (rorder_p w w2 _ b r most 120 T K T K HP.out (by omega)).mono ?_; rintro e w5 ⟨⟨a5, c5, rfl, ho, k5⟩, _⟩
    obtain ⟨Z, hZ⟩ : ∃ Z : Nat → Prop, Z = fun i => False ∨ (w2.heap.size ≤ i ∧ i < w5.heap.size) := ⟨_, rfl⟩
    have HP5 : Hid (P4 w Z b r most 120 T K T K w5) := by rw [hZ]; exact HP.out.box k5
    obtain ⟨ks, hks⟩ : ∃ ks, ks = keysP (T ++ K) := ⟨_, rfl⟩
    rw [← hks] at ho ⊢
    have HI5 : Hid (Kp w Z a5 c5 ks w5) := by rw [hZ]; exact Kp.new ho
    have HKS := Lib.hid hks
    have hkl : ks.length ≤ 120 := by have := HP5.out.len.1; rw [hks, keys_len, List.length_append]; omega
    clear ho k5 hks hZ
    go_wp2_with fail
    go_loopw [36] (fun i wr => ∃ j : Nat, j ≤ l2.length ∧ i = .int .i64 (↑j : Int) ∧ Hid (P4 w Z b r most (120 + 4 * j) T K T K wr) ∧ Hid (Kp w Z a5 c5 ks wr)) (fun i _ => l2.length - (intOf i).toNat)
    case atStart => exact ⟨0, by omega, rfl, HP5, HI5⟩
    case round =>
      obtain ⟨j, hj, rfl, HQ, HI⟩ := hrel
      by_cases hjt : j < l2.length
      · obtain ⟨lb, lo, rfl, hlb, hc⟩ := HC2.out (by omega)
        obtain ⟨⟨kd, x, n⟩, hx⟩ : ∃ x, l2[j]? = some x := ⟨_, List.getElem?_eq_getElem hjt⟩
        obtain ⟨kc0, kc1, kc2⟩ := hc j _ hx
        have HG := Lib.hid HQ.out.g
        have e0 : wr.cell? ⟨lb, lo + j * 3, none⟩ = some (.int .i64 kd) := by rw [HG.out.cell hlb id]; exact kc0
        have e1 : wr.cell? ⟨lb, lo + j * 3 + 1, none⟩ = some (.int .i64 x) := by rw [HG.out.cell hlb id]; exact kc1
        have e2 : wr.cell? ⟨lb, lo + j * 3 + 2, none⟩ = some (.int .i64 n) := by rw [HG.out.cell hlb id]; exact kc2
        have hw := (HWF2.out _ (List.mem_of_getElem? hx)).2.1
        clear kc0 kc1 kc2 hc hx
        go_wp2_with fail
        refine name_calls ?_; intro W hW
        have gW : Chg (fun _ => False) wr W := by subst hW; exact (by repeat (first | with_reducible exact Chg.refl _ _ | with_reducible assumption | with_reducible refine Chg.drewN ?_ _ | with_reducible refine Chg.drew ?_ | with_reducible refine Chg.alloc ?_ _ | with_reducible refine Chg.setCell ?_ (by first | (left; rfl) | (left; left; rfl) | (left; right; rfl) | (left; right; left; rfl) | (left; right; right; rfl) | (right; exact Nat.le_refl _) | (right; simp; done) | (right; omega) | (right; simp at *; omega) | (simp at *; omega)) _ | with_reducible refine Chg.trans ?_ (by with_reducible assumption) (by intro i hi hT; first | exact hT | exact False.elim hT | omega | (simp at *; omega))))
        have f1 : W.cell? ⟨wr.heap.size, 1, none⟩ = some (.int .i64 x) := by subst hW; go_simp
        have f2 : W.cell? ⟨wr.heap.size, 2, none⟩ = some (.int .i64 n) := by subst hW; go_simp
        have z1 : wr.heap.size < W.heap.size := by subst hW; simp
        clear hW e0 e1 e2
        obtain ⟨Y, hY⟩ : ∃ Y : Nat → Prop, Y = fun i => Z i ∨ (wr.heap.size ≤ i ∧ i < W.heap.size) := ⟨_, rfl⟩
        have HPW : Hid (P4 w Y b r most (120 + 4 * j) T K T K W) := by rw [hY]; exact HQ.out.box gW
        have HYB : Hid (Y wr.heap.size) := by rw [hY]; exact .inr ⟨Nat.le_refl _, z1⟩
        have HZY : Hid (∀ i, Z i → Y i) := fun i hi => by rw [hY]; exact .inl hi
        have HIW : Hid (IsK W a5 c5 ks) := HI.out.1.keep gW fun _ _ => id
        have HIZ : Hid (∀ g, (Value.slice a5 ks.length c5).ownBlock = some g → Y g) := fun g hg => HZY.out g (HI.out.2 g hg)
        have HIZ2 := Lib.hid HI.out.2
        clear gW hY
        refine (rhas_p w W Y b r most (120 + 4 * j) T K T K x HPW.out (by omega)).mono ?_; rintro e w6 ⟨rfl, hP, k6⟩
        have HP6 := Lib.hid hP
        have i1 : w6.cell? ⟨wr.heap.size, 1, none⟩ = some (.int .i64 x) := by rw [k6.cell z1 id]; exact f1
        have i2 : w6.cell? ⟨wr.heap.size, 2, none⟩ = some (.int .i64 n) := by rw [k6.cell z1 id]; exact f2
        have z6 : wr.heap.size < w6.heap.size := cell_lt i1
        have HI6 : Hid (Kp w Y a5 c5 ks w6) := ⟨HIW.out.keep k6 fun _ _ => id, HIZ.out⟩
        obtain ⟨d, hd⟩ : ∃ d, d = hasK (T ++ K) x := ⟨_, rfl⟩
        rw [← hd]
        have HD := Lib.hid hd
        clear hP k6 hd f1 f2
        cases d with
        | true =>
          have HAC : Hid (addC T K x n = 1 ∨ addC T K x n = 7) := by
            have := HD.out
            rw [hasK_append] at this
            show _ ∨ _
            rw [addC]
            by_cases hn : n < 1 ∨ 1099511627776 < n
            · rw [if_pos hn]; exact .inl rfl
            · rw [if_neg hn, ← this]; exact .inr rfl
          have HAT : Hid (addT T K x n = T) := by
            show _ = _
            rw [addT, if_neg]
            rcases HAC.out with h | h <;> rw [h] <;> omega
          go_wp2_with fail
          refine (add_p w w6 Y b r most (120 + 4 * j) T K T K x n HP6.out (by omega) hw).mono ?_; rintro e w7 ⟨rfl, hP, k7⟩
          obtain ⟨C, hC⟩ : ∃ C, C = addC T K x n := ⟨_, rfl⟩
          rw [← hC]
          have q0 : (C == 0) = false := by rcases HAC.out with h | h <;> rw [hC, h] <;> rfl
          have HP7 : Hid (P4 w Z b r most (120 + 4 * (j + 1)) T K T K w7) := by rw [HAT.out] at hP; exact (hP.less HZY.out).mono (by omega)
          have HI7 : Hid (Kp w Z a5 c5 ks w7) := ⟨(HI6.out.keep k7).1, HIZ2.out⟩
          clear hP k7 hC
          go_wp2
          go_roundw
          case rel => exact ⟨j + 1, by omega, by go_num, HP7, HI7⟩
          case measure => simp [intOf]; omega
        | false =>
          have HNO : Hid (hasK (T ++ K) x = false) := HD.out.symm
          have HNT := Lib.hid (touch_of_no (most := most) HNO.out)
          have HA0 : Hid (addC T K x 0 = 1 ∧ addT T K x 0 = T) := by
            have : addC T K x 0 = 1 := by rw [addC, if_pos (by omega)]
            exact ⟨this, by rw [addT, if_neg (by rw [this]; omega)]⟩
          have HA1 : Hid (addC T K x 2199023255552 = 1 ∧ addT T K x 2199023255552 = T) := by
            have : addC T K x 2199023255552 = 1 := by rw [addC, if_pos (by omega)]
            exact ⟨this, by rw [addT, if_neg (by rw [this]; omega)]⟩
          go_wp2_with fail
          refine (touch_p w w6 Y b r most (120 + 4 * j) T K T K x HP6.out (by omega) hw).mono ?_; rintro e w7 ⟨rfl, hP, k7⟩
          rw [HNO.out]
          have HP7 : Hid (P4 w Y b r most (120 + 4 * j + 1) T K T K w7) := by rw [HNT.out.1] at hP; exact hP
          have HI7 := Lib.hid (HI6.out.keep k7)
          have j1 : w7.cell? ⟨wr.heap.size, 1, none⟩ = some (.int .i64 x) := by rw [k7.cell z6 fun h => h HYB.out]; exact i1
          have z7 : wr.heap.size < w7.heap.size := cell_lt j1
          clear hP k7 i1 i2
          go_wp2_with fail
          refine (drop_p w w7 Y b r most (120 + 4 * j + 1) T K T K x HP7.out (by omega) hw).mono ?_; rintro e w8 ⟨rfl, hP, k8⟩
          rw [HNO.out]
          have HP8 : Hid (P4 w Y b r most (120 + 4 * j + 2) T K T K w8) := by rw [HNT.out.2] at hP; exact hP
          have HI8 := Lib.hid (HI7.out.keep k8)
          have l1 : w8.cell? ⟨wr.heap.size, 1, none⟩ = some (.int .i64 x) := by rw [k8.cell z7 fun h => h HYB.out]; exact j1
          have z8 : wr.heap.size < w8.heap.size := cell_lt l1
          clear hP k8 j1
          go_wp2_with fail
          refine (add_p w w8 Y b r most (120 + 4 * j + 2) T K T K x 0 HP8.out (by omega) hw).mono ?_; rintro e w9 ⟨rfl, hP, k9⟩
          rw [HA0.out.1]
          have HP9 : Hid (P4 w Y b r most (120 + 4 * j + 3) T K T K w9) := by rw [HA0.out.2] at hP; exact hP
          have HI9 := Lib.hid (HI8.out.keep k9)
          have m1 : w9.cell? ⟨wr.heap.size, 1, none⟩ = some (.int .i64 x) := by rw [k9.cell z8 fun h => h HYB.out]; exact l1
          clear hP k9 l1
          go_wp2_with fail
          refine (add_p w w9 Y b r most (120 + 4 * j + 3) T K T K x 2199023255552 HP9.out (by omega) hw).mono ?_; rintro e w10 ⟨rfl, hP, k10⟩
          rw [HA1.out.1]
          have HP10 : Hid (P4 w Z b r most (120 + 4 * (j + 1)) T K T K w10) := by rw [HA1.out.2] at hP; exact (hP.less HZY.out).mono (by omega)
          have HI10 : Hid (Kp w Z a5 c5 ks w10) := ⟨(HI9.out.keep k10).1, HIZ2.out⟩
          clear hP k10 m1
          go_wp2
          go_roundw
          case rel => exact ⟨j + 1, by omega, by go_num, HP10, HI10⟩
          case measure => simp [intOf]; omega
      · obtain rfl : j = l2.length := by omega
        go_wp2_with fail
        refine (order_p w wr Z b r most _ T K T K HQ.out (by omega)).mono ?_; rintro e w8 ⟨⟨a8, c8, rfl, ho, k8⟩, hP⟩
        have HP8 := Lib.hid hP
        rw [← HKS.out] at ho ⊢
        have HI8 : Hid (IsK w8 a8 c8 ks) := RdS.row ho (nums_one _)
        have HJ8 : Hid (IsK w8 a5 c5 ks) := HI.out.1.keep k8 fun _ _ => id
        clear hP ho k8
        go_wp2_with fail
        refine (same_any w8 a8 a5 c8 c5 ks HI8.out HJ8.out (by omega)).mono ?_; rintro e w10 ⟨rfl, k10⟩
        have HP10 := Lib.hid (HP8.out.still k10)
        clear k10
        go_wp2
        go_ret
        exact ⟨rfl, Chg.below HP10.out.g⟩
end Go.Proofs.Ytjeclknahjnhoaa
