/- The law First. (Printed by genlaws.py.) -/
import Derived.Test.YtheiodnckjmieaaEp
namespace Go.Proofs.Ytheiodnckjmieaa
set_option linter.unusedVariables false
open Go.RowKit

set_option maxHeartbeats 4000000 in
set_option maxRecDepth 100000 in
theorem extentFirst_any (s : Int) (v : Value) (l : List (Int × Int × Int)) (n : Int) (w : World) (hs : (Lit.int .i64 s).wf = true) (hL : IsL3 .i64 .i64 .i64 w v l) (hn : (Lit.int .i64 n).wf = true) :
    Calls Try.prog 5 #[.int .i64 s, v, .int .i64 n] w fun e w' => e = .returned (.bool true) ∧ Below w.heap.size w w' := by
  obtain ⟨hwf, a, cap, rfl, hlen, hc⟩ := hL
  have HC := Lib.hid hc
  have HWF := Lib.hid hwf
  clear hc hwf
  go_enter Try.func5, Try.ntmps5
  go_wp2_with fail
  refine (awake_any w).mono ?_; rintro e w1 ⟨rfl, g1⟩
  go_wp2_with fail
  refine (great_any w1 s a l.length cap).mono ?_; rintro e w1' ⟨rfl, rfl⟩
  cases hg : greatB s l.length with
  | true =>
    go_wp2_with fail
    refine (awake_any w1).mono ?_; rintro e w2 ⟨rfl, g2⟩
    go_wp2
    go_ret
    exact ⟨rfl, Chg.below (g1.trans g2 (fun _ _ h => h))⟩
  | false =>
    go_wp2_with fail
    cases hb : badN 0 s with
    | true =>
      refine (new_bad w1 0 s hb).mono ?_; rintro e w2 ⟨rfl, rfl⟩
      go_wp2_with fail
      refine (rnew_bad w1 0 s hb).mono ?_; rintro e w2 ⟨rfl, rfl⟩
      go_wp2
      go_ret
      exact ⟨rfl, Chg.below g1⟩
    | false =>
      have hbb : 0 ≤ s ∧ s ≤ 1048576 := by simp [badN] at hb; omega
      obtain ⟨N, rfl⟩ : ∃ n : Nat, s = n := ⟨s.toNat, by omega⟩
      refine (new_ef w1 0 N hb).mono ?_; rintro e w2 ⟨rfl, hE, g2⟩
      obtain ⟨B, hB⟩ : ∃ B, B = w1.heap.size := ⟨_, rfl⟩
      rw [← hB] at hE ⊢
      have HB := Lib.hid hB
      clear hB
      go_wp2_with fail
      refine (rnew_ok w2 0 N hb).mono ?_; rintro e w3 ⟨rfl, hR, g3⟩
      have hP := new_pair HB.out hE hR g3
      obtain ⟨B2, hB2⟩ : ∃ B2, B2 = w2.heap.size := ⟨_, rfl⟩
      rw [← hB2] at hP ⊢
      have zB : w.heap.size ≤ B ∧ w.heap.size ≤ B2 := by have := g1.size; have := g2.size; have := HB.out; omega
      have HP := Lib.hid hP
      have G3 := Lib.hid ((g1.trans g2 (fun _ _ h => h)).trans g3 (fun _ _ h => h))
      clear hE hR hP hB2 g1 g2 g3 hg hb
      go_wp2_with fail
      go_loopw [50] (fun i wr => ∃ k : Nat, k ≤ l.length ∧ i = .int .i64 (↑k : Int) ∧ Hid (∃ F, Pr wr (fun q => q = B ∨ q = B2) B B2 0 F) ∧ Hid (Chg (fun _ => False) w wr)) (fun i _ => l.length - (intOf i).toNat)
      case atStart => exact ⟨0, by omega, rfl, ⟨_, HP.out⟩, G3.out⟩
      case round =>
        obtain ⟨k, hk, rfl, HQ, HG⟩ := hrel
        by_cases hlt : k < l.length
        · obtain ⟨lb, lo, rfl, hlb, hc⟩ := HC.out (by omega)
          obtain ⟨⟨kd, x, y⟩, hx⟩ : ∃ x, l[k]? = some x := ⟨_, List.getElem?_eq_getElem hlt⟩
          obtain ⟨kc0, kc1, kc2⟩ := hc k _ hx
          have e0 : wr.cell? ⟨lb, lo + k * 3, none⟩ = some (.int .i64 kd) := by rw [HG.out.cell hlb id]; exact kc0
          have e1 : wr.cell? ⟨lb, lo + k * 3 + 1, none⟩ = some (.int .i64 x) := by rw [HG.out.cell hlb id]; exact kc1
          have e2 : wr.cell? ⟨lb, lo + k * 3 + 2, none⟩ = some (.int .i64 y) := by rw [HG.out.cell hlb id]; exact kc2
          have hw := HWF.out _ (List.mem_of_getElem? hx)
          have HX := Lib.hid (And.intro (wfI64 hw.2.1) (wfI64 hw.2.2))
          obtain ⟨F, hF⟩ := HQ.out
          have HF := Lib.hid hF
          clear kc0 kc1 kc2 hc hx hw hF
          go_wp2_with fail
          refine name_calls ?_; intro W hW
          have gW : Chg (fun _ => False) wr W := by subst hW; exact (by repeat (first | with_reducible exact Chg.refl _ _ | with_reducible assumption | with_reducible refine Chg.drewN ?_ _ | with_reducible refine Chg.drew ?_ | with_reducible refine Chg.alloc ?_ _ | with_reducible refine Chg.setCell ?_ (by first | (left; rfl) | (right; exact Nat.le_refl _) | (right; simp; done) | (right; omega) | (right; simp at *; omega) | (simp at *; omega)) _ | with_reducible refine Chg.trans ?_ (by with_reducible assumption) (by intro i hi hT; first | exact hT | exact False.elim hT | omega | (simp at *; omega))))
          clear hW
          refine (do_any W _ B B2 0 F kd x y (HF.out.chg gW (fun _ _ h => h.elim) id id) HX.out.1 HX.out.2).mono ?_; rintro e w4 ⟨rfl, hP, g4⟩
          have HP4 := Lib.hid hP
          have G4 : Hid (Chg (fun _ => False) w w4) := (HG.out.trans gW (fun _ _ h => h)).trans g4 (fun q hq h => by omega)
          clear hP g4 gW
          go_wp2
          go_roundw
          case rel => exact ⟨k + 1, by omega, by go_num, ⟨_, HP4.out⟩, G4.out⟩
          case measure => simp [intOf]; omega
        · obtain rfl : k = l.length := by omega
          obtain ⟨F, hF⟩ := HQ.out
          have HF := Lib.hid hF
          clear hF
          go_wp2_with fail
          refine (free_ef wr _ B 0 F HF.out.1).mono ?_; rintro e w4 ⟨⟨gs, a4, c4, rfl, ho, hS⟩, g4⟩
          have HS := Lib.hid hS
          have HI : Hid (IsE w4 a4 c4 gs) := RdS.row ho (flat_one _)
          have HE4 := Lib.hid (HF.out.1.chg g4 (fun _ _ h => h.elim) id)
          have hlow := Lib.hid ho.lt
          have z4 := g4.size
          have hgl : gs.length ≤ 1048576 := by
            have := norm_len HS.out.norm (by have := HF.out.1.bd; omega)
            have := HF.out.1.bd
            omega
          have G4 := Lib.hid (HG.out.trans g4 (fun _ _ h => h))
          have hBr := HF.out.1.sb.2
          clear hS ho g4
          go_wp2_with fail
          refine (take_ef w4 _ B 0 F n HE4.out (wfI64 hn).2).mono ?_; rintro e w5 ⟨rfl, hE, g5⟩
          have HI5 : Hid (IsE w5 a4 c4 gs) := IsE.keep HI.out g5 (fun q hq h => by have := (hlow.out q hq).1; omega)
          have G5 : Hid (Chg (fun _ => False) w w5) := G4.out.trans g5 (fun q hq h => by omega)
          obtain ⟨⟨X, Y⟩, hXY⟩ : ∃ q : Int × Int, q = takeX 0 F n := ⟨_, rfl⟩
          obtain ⟨Z, hZ⟩ : ∃ q : Int, q = takeC F n := ⟨_, rfl⟩
          have eX : (takeX 0 F n).1 = X := by rw [← hXY]
          have eY : (takeX 0 F n).2 = Y := by rw [← hXY]
          rw [eX, eY, ← hZ]
          have HX := Lib.hid (And.intro eX (And.intro eY hZ))
          clear hE g5 hXY hZ eX eY
          go_wp2_with fail
          refine name_region ?_; intro W hW
          have gW : Chg (fun _ => False) w5 W := by subst hW; exact (by repeat (first | with_reducible exact Chg.refl _ _ | with_reducible assumption | with_reducible refine Chg.drewN ?_ _ | with_reducible refine Chg.drew ?_ | with_reducible refine Chg.alloc ?_ _ | with_reducible refine Chg.setCell ?_ (by first | (left; rfl) | (right; exact Nat.le_refl _) | (right; simp; done) | (right; omega) | (right; simp at *; omega) | (simp at *; omega)) _ | with_reducible refine Chg.trans ?_ (by with_reducible assumption) (by intro i hi hT; first | exact hT | exact False.elim hT | omega | (simp at *; omega))))
          have x0 : W.cell? ⟨w5.heap.size, 0, none⟩ = some (.int .i64 X) := by subst hW; go_simp
          have x1 : W.cell? ⟨w5.heap.size, 1, none⟩ = some (.int .i64 Y) := by subst hW; go_simp
          have z5 : w5.heap.size < W.heap.size := by subst hW; simp
          clear hW
          have HIW := Lib.hid (IsE.keep HI5.out gW (fun _ _ h => h))
          have GW := Lib.hid (G5.out.trans gW (fun _ _ h => h))
          clear gW
          go_loopw [69] (fun i wr => ∃ k : Nat, k ≤ gs.length ∧ i = .int .i64 (↑k : Int) ∧ Hid (∀ j f, gs[j]? = some f → j < k → 1 ≤ n → f.2 < n) ∧ Hid (Chg (fun _ => False) W wr)) (fun i _ => gs.length - (intOf i).toNat)
          case atStart => exact ⟨0, by omega, rfl, fun j f _ hj => by omega, Chg.refl _ _⟩
          case round =>
            obtain ⟨k, hk, rfl, HN, HG2⟩ := hrel
            have y0 : wr.cell? ⟨w5.heap.size, 0, none⟩ = some (.int .i64 X) := by rw [HG2.out.cell z5 id]; exact x0
            have y1 : wr.cell? ⟨w5.heap.size, 1, none⟩ = some (.int .i64 Y) := by rw [HG2.out.cell z5 id]; exact x1
            have z6 : w5.heap.size < wr.heap.size := Nat.lt_of_lt_of_le z5 HG2.out.size
            by_cases hkt : k < gs.length
            · obtain ⟨f, hf⟩ : ∃ f, gs[k]? = some f := ⟨_, List.getElem?_eq_getElem hkt⟩
              obtain ⟨g, o, rfl, lg, k0, k1⟩ := (IsE.keep HIW.out HG2.out (fun _ _ h => h)).at hf
              have HFF := Lib.hid hf
              clear hf
              by_cases p1 : 1 ≤ n
              · by_cases p2 : n ≤ f.2
                · have hsp : gs = gs.take k ++ f :: gs.drop (k + 1) := by
                    obtain ⟨hl, he⟩ := List.getElem?_eq_some_iff.1 HFF.out
                    rw [← he, List.getElem_cons_drop, List.take_append_drop]
                  have hS2 := HS.out
                  rw [hsp] at hS2
                  obtain ⟨t1, t2, t3⟩ := take_first hS2 p1 (fun x hx => by
                    obtain ⟨j, hj⟩ := List.getElem?_of_mem hx
                    rw [List.getElem?_take] at hj
                    by_cases hjk : j < k
                    · rw [if_pos hjk] at hj; exact HN.out j x hj hjk p1
                    · rw [if_neg hjk] at hj; cases hj) p2
                  have q1 : ¬ n < 1 := by omega
                  have hZ : Z = 0 := by rw [HX.out.2.2, takeC, if_neg q1, t1]
                  have hX : X = f.1 := by rw [← HX.out.1, takeX, if_neg q1, t1]; show 0 + ((f.1 - 0).toNat : Int) = f.1; omega
                  have hY : Y = n := by rw [← HX.out.2.1, takeX, if_neg q1, t1]
                  subst hX hY hZ
                  clear hsp hS2 t1 t2 t3 q1
                  go_wp2
                  go_ret
                  exact ⟨by simp, Chg.below ((GW.out.trans HG2.out (fun _ _ h => h)).trans (T := fun _ => False) (by repeat (first | with_reducible exact Chg.refl _ _ | with_reducible assumption | with_reducible refine Chg.drewN ?_ _ | with_reducible refine Chg.drew ?_ | with_reducible refine Chg.alloc ?_ _ | with_reducible refine Chg.setCell ?_ (by first | (left; rfl) | (right; exact Nat.le_refl _) | (right; simp; done) | (right; omega) | (right; simp at *; omega) | (simp at *; omega)) _ | with_reducible refine Chg.trans ?_ (by with_reducible assumption) (by intro i hi hT; first | exact hT | exact False.elim hT | omega | (simp at *; omega)))) (fun _ _ h => h))⟩
                · have q2 : decide (n ≤ f.2) = false := by simp; omega
                  go_wp2
                  go_roundw
                  case rel => exact ⟨k + 1, by omega, by go_num, fun j f' hj hjk hn1 => by
                    by_cases e : j = k
                    · subst e; rw [HFF.out] at hj; injection hj with hj; subst hj; omega
                    · exact HN.out j f' hj (by omega) hn1, HG2.out.trans (T := fun _ => False) (by repeat (first | with_reducible exact Chg.refl _ _ | with_reducible assumption | with_reducible refine Chg.drewN ?_ _ | with_reducible refine Chg.drew ?_ | with_reducible refine Chg.alloc ?_ _ | with_reducible refine Chg.setCell ?_ (by first | (left; rfl) | (right; exact Nat.le_refl _) | (right; simp; done) | (right; omega) | (right; simp at *; omega) | (simp at *; omega)) _ | with_reducible refine Chg.trans ?_ (by with_reducible assumption) (by intro i hi hT; first | exact hT | exact False.elim hT | omega | (simp at *; omega)))) (fun _ _ h => h)⟩
                  case measure => simp [intOf]; omega
              · have q1 : decide (1 ≤ n) = false := by simp; omega
                go_wp2
                go_roundw
                case rel => exact ⟨k + 1, by omega, by go_num, fun j f' _ _ hn1 => absurd hn1 p1, HG2.out.trans (T := fun _ => False) (by repeat (first | with_reducible exact Chg.refl _ _ | with_reducible assumption | with_reducible refine Chg.drewN ?_ _ | with_reducible refine Chg.drew ?_ | with_reducible refine Chg.alloc ?_ _ | with_reducible refine Chg.setCell ?_ (by first | (left; rfl) | (right; exact Nat.le_refl _) | (right; simp; done) | (right; omega) | (right; simp at *; omega) | (simp at *; omega)) _ | with_reducible refine Chg.trans ?_ (by with_reducible assumption) (by intro i hi hT; first | exact hT | exact False.elim hT | omega | (simp at *; omega)))) (fun _ _ h => h)⟩
                case measure => simp [intOf]; omega
            · obtain rfl : k = gs.length := by omega
              by_cases p1 : 1 ≤ n
              · have q1 : ¬ n < 1 := by omega
                have q2 : decide (n < 1) = false := by simp; omega
                have hZ : Z = 5 := by
                  rw [HX.out.2.2, takeC, if_neg q1, take_never HS.out p1 (fun f hf => by
                    obtain ⟨j, hj⟩ := List.getElem?_of_mem hf
                    exact HN.out j f hj (List.getElem?_eq_some_iff.1 hj).1 p1)]
                subst hZ
                clear q1
                go_wp2
                go_ret
                exact ⟨rfl, Chg.below (GW.out.trans HG2.out (fun _ _ h => h))⟩
              · have q1 : n < 1 := by omega
                have hZ : Z = 1 := by rw [HX.out.2.2, takeC, if_pos q1]
                subst hZ
                go_wp2
                go_ret
                exact ⟨rfl, Chg.below (GW.out.trans HG2.out (fun _ _ h => h))⟩
end Go.Proofs.Ytheiodnckjmieaa
