/- The law Refused. (Printed by genlaws.py.) -/
import Derived.Test.YtheiodnckjmieaaEp
import Derived.Deep.CutBlock
namespace Go.Proofs.Ytheiodnckjmieaa
set_option linter.unusedVariables false
open Go.RowKit

theorem ref_take (F : List Bool) (n : Int) : takeC F n = 0 ∨ takeF F n = F := by
  unfold takeC takeF
  by_cases h : n < 1
  · rw [if_pos h, if_pos h]; exact .inr rfl
  · rw [if_neg h, if_neg h]
    cases takeP F n.toNat with
    | some p => exact .inl rfl
    | none => exact .inr rfl
theorem ref_claim (base : Int) (F : List Bool) (x n : Int) : claimC base F x n = 0 ∨ claimF base F x n = F := by
  unfold claimC claimF
  cases oursB base F.length x n <;> cases allF F (x - base).toNat n.toNat true <;> simp
theorem ref_give (base : Int) (F : List Bool) (x n : Int) : giveC base F x n = 0 ∨ giveF base F x n = F := by
  unfold giveC giveF
  cases oursB base F.length x n <;> cases allF F (x - base).toNat n.toNat false <;> simp

set_option maxHeartbeats 4000000 in
set_option maxRecDepth 100000 in
theorem extentRefused_any (s : Int) (v : Value) (l : List (Int × Int × Int)) (w : World) (hs : (Lit.int .i64 s).wf = true) (hL : IsL3 .i64 .i64 .i64 w v l) :
    Calls Try.prog 9 #[.int .i64 s, v] w fun e w' => e = .returned (.bool true) ∧ Below w.heap.size w w' := by
  obtain ⟨hwf, a, cap, rfl, hlen, hc⟩ := hL
  have HC := Lib.hid hc
  have HWF := Lib.hid hwf
  clear hc hwf
  go_enter Try.func9, Try.ntmps9
  go_wp2_with fail
  refine (awake_any w).mono ?_; rintro e w1 ⟨rfl, g1⟩
  go_wp2_with fail
  refine (great_any w1 s a l.length cap).mono ?_; rintro e w1' ⟨rfl, rfl⟩
  cases hg : greatB s l.length with
  | true =>
    go_wp2_with fail
    refine (awake_any w1).mono ?_; rintro e w2 ⟨rfl, g2⟩
    go_wp2
    go_ret
    exact ⟨rfl, Chg.below (g1.trans g2 (fun _ _ h => h))⟩
  | false =>
    go_wp2_with fail
    cases hb : badN 0 s with
    | true =>
      refine (new_bad w1 0 s hb).mono ?_; rintro e w2 ⟨rfl, rfl⟩
      go_wp2_with fail
      refine (rnew_bad w1 0 s hb).mono ?_; rintro e w2 ⟨rfl, rfl⟩
      go_wp2
      go_ret
      exact ⟨rfl, Chg.below g1⟩
    | false =>
      have hbb : 0 ≤ s ∧ s ≤ 1048576 := by simp [badN] at hb; omega
      obtain ⟨N, rfl⟩ : ∃ n : Nat, s = n := ⟨s.toNat, by omega⟩
      refine (new_ef w1 0 N hb).mono ?_; rintro e w2 ⟨rfl, hE, g2⟩
      obtain ⟨B, hB⟩ : ∃ B, B = w1.heap.size := ⟨_, rfl⟩
      rw [← hB] at hE ⊢
      have HB := Lib.hid hB
      clear hB
      go_wp2_with fail
      refine (rnew_ok w2 0 N hb).mono ?_; rintro e w3 ⟨rfl, hR, g3⟩
      have hP := new_pair HB.out hE hR g3
      obtain ⟨B2, hB2⟩ : ∃ B2, B2 = w2.heap.size := ⟨_, rfl⟩
      rw [← hB2] at hP ⊢
      have zB : w.heap.size ≤ B ∧ w.heap.size ≤ B2 := by have := g1.size; have := g2.size; have := HB.out; omega
      have HP := Lib.hid hP
      have G3 := Lib.hid ((g1.trans g2 (fun _ _ h => h)).trans g3 (fun _ _ h => h))
      clear hE hR hP hB2 g1 g2 g3 hg hb
      go_wp2_with fail
      go_loopw [47] (fun i wr => ∃ k : Nat, k ≤ l.length ∧ i = .int .i64 (↑k : Int) ∧ Hid (∃ F, Ef wr (fun q => q = B ∨ q = B2) B 0 F) ∧ Hid (Chg (fun _ => False) w wr)) (fun i _ => l.length - (intOf i).toNat)
      case atStart => exact ⟨0, by omega, rfl, ⟨_, HP.out.1⟩, G3.out⟩
      case round =>
        obtain ⟨k, hk, rfl, HQ, HG⟩ := hrel
        by_cases hlt : k < l.length
        rotate_left
        · obtain rfl : k = l.length := by omega
          go_wp2
          go_ret
          exact ⟨rfl, Chg.below HG.out⟩
        obtain ⟨lb, lo, rfl, hlb, hc⟩ := HC.out (by omega)
        obtain ⟨⟨kd, x, y⟩, hx⟩ : ∃ x, l[k]? = some x := ⟨_, List.getElem?_eq_getElem hlt⟩
        obtain ⟨kc0, kc1, kc2⟩ := hc k _ hx
        have e0 : wr.cell? ⟨lb, lo + k * 3, none⟩ = some (.int .i64 kd) := by rw [HG.out.cell hlb id]; exact kc0
        have e1 : wr.cell? ⟨lb, lo + k * 3 + 1, none⟩ = some (.int .i64 x) := by rw [HG.out.cell hlb id]; exact kc1
        have e2 : wr.cell? ⟨lb, lo + k * 3 + 2, none⟩ = some (.int .i64 y) := by rw [HG.out.cell hlb id]; exact kc2
        have hw := HWF.out _ (List.mem_of_getElem? hx)
        have HX := Lib.hid (And.intro (wfI64 hw.2.1) (wfI64 hw.2.2))
        obtain ⟨F, hF⟩ := HQ.out
        have HF := Lib.hid hF
        clear kc0 kc1 kc2 hc hx hw hF
        go_wp2_with fail
        refine name_calls ?_; intro W hW
        have gW : Chg (fun _ => False) wr W := by subst hW; exact (by repeat (first | with_reducible exact Chg.refl _ _ | with_reducible assumption | with_reducible refine Chg.drewN ?_ _ | with_reducible refine Chg.drew ?_ | with_reducible refine Chg.alloc ?_ _ | with_reducible refine Chg.setCell ?_ (by first | (left; rfl) | (right; exact Nat.le_refl _) | (right; simp; done) | (right; omega) | (right; simp at *; omega) | (simp at *; omega)) _ | with_reducible refine Chg.trans ?_ (by with_reducible assumption) (by intro i hi hT; first | exact hT | exact False.elim hT | omega | (simp at *; omega))))
        have b0 : W.cell? ⟨wr.heap.size, 0, none⟩ = some (.int .i64 kd) := by subst hW; go_simp
        have b1 : W.cell? ⟨wr.heap.size, 1, none⟩ = some (.int .i64 x) := by subst hW; go_simp
        have b2 : W.cell? ⟨wr.heap.size, 2, none⟩ = some (.int .i64 y) := by subst hW; go_simp
        have zW : wr.heap.size < W.heap.size := by subst hW; simp
        clear hW
        have HE0 := Lib.hid (HF.out.chg gW (fun _ _ h => h.elim) id)
        have G0 := Lib.hid (HG.out.trans gW (fun _ _ h => h))
        clear gW
        refine (free_ef W _ B 0 F HE0.out).mono ?_; rintro e w4 ⟨⟨gs, a4, c4, rfl, ho, hS⟩, g4⟩
        have HS := Lib.hid hS
        have HI : Hid (IsE w4 a4 c4 gs) := RdS.row ho (flat_one _)
        have HE4 := Lib.hid (HE0.out.chg g4 (fun _ _ h => h.elim) id)
        have hlow : Hid (∀ q, (Value.slice a4 gs.length c4).ownBlock = some q → W.heap.size ≤ q) := fun q hq => (ho.lt q hq).1
        have hgl : gs.length ≤ 1048576 := by
          have := norm_len HS.out.norm (by have := HE0.out.bd; omega)
          have := HE0.out.bd
          omega
        have hBr := HE0.out.sb.2
        have G4 := Lib.hid (G0.out.trans g4 (fun _ _ h => h))
        have d0 : w4.cell? ⟨wr.heap.size, 0, none⟩ = some (.int .i64 kd) := by rw [g4.cell zW id]; exact b0
        have d1 : w4.cell? ⟨wr.heap.size, 1, none⟩ = some (.int .i64 x) := by rw [g4.cell zW id]; exact b1
        have d2 : w4.cell? ⟨wr.heap.size, 2, none⟩ = some (.int .i64 y) := by rw [g4.cell zW id]; exact b2
        clear hS ho g4 b0 b1 b2
        -- what is done
        go_upto_block 2 with fail
        go_cut [12] (fun z wx => ∃ (Z : Int) (F' : List Bool), z = .int .i64 Z ∧ Hid (Z = 0 ∨ F' = F) ∧ Hid (Ef wx (fun q => q = B ∨ q = B2) B 0 F') ∧ Hid (Chg (fun q => q = B) w4 wx))
        case first =>
          by_cases e1' : kd = 1
          · subst e1'
            go_wp2_with fail
            refine (take_ef w4 _ B 0 F x HE4.out HX.out.1.2).mono ?_; rintro e w5 ⟨rfl, hE, g5⟩
            have HE5 := Lib.hid hE
            have G5 := Lib.hid g5
            clear hE g5
            go_wp2
            go_meet
            exact ⟨_, _, rfl, ref_take _ _, HE5.out, G5.out⟩
          · have q1 : (kd == 1) = false := by simpa using e1'
            by_cases e2' : kd = 2
            · clear e1' q1
              subst e2'
              go_wp2_with fail
              refine (claim_ef w4 _ B 0 F x y HE4.out HX.out.1 HX.out.2).mono ?_; rintro e w5 ⟨rfl, hE, g5⟩
              have HE5 := Lib.hid hE
              have G5 := Lib.hid g5
              clear hE g5
              go_wp2
              go_meet
              exact ⟨_, _, rfl, ref_claim _ _ _ _, HE5.out, G5.out⟩
            · have q2 : (kd == 2) = false := by simpa using e2'
              by_cases e3' : kd = 3
              · clear e1' q1 e2' q2
                subst e3'
                go_wp2_with fail
                refine (give_ef w4 _ B 0 F x y HE4.out HX.out.1 HX.out.2).mono ?_; rintro e w5 ⟨rfl, hE, g5⟩
                have HE5 := Lib.hid hE
                have G5 := Lib.hid g5
                clear hE g5
                go_wp2
                go_meet
                exact ⟨_, _, rfl, ref_give _ _ _ _, HE5.out, G5.out⟩
              · have q3 : (kd == 3) = false := by simpa using e3'
                clear e1' e2' e3'
                go_wp2
                go_meet
                exact ⟨0, F, rfl, .inl rfl, HE4.out, Chg.refl _ _⟩
        case rest =>
          obtain ⟨Z, F', rfl, HZ, HE5, G5⟩ := hcut
          have HI5 : Hid (IsE wc a4 c4 gs) := IsE.keep HI.out G5.out (fun q hq h => by have := hlow.out q hq; omega)
          have G6 : Hid (Chg (fun _ => False) w wc) := G4.out.trans G5.out (fun q hq h => by omega)
          by_cases hz : Z = 0
          · subst hz
            go_wp2
            go_roundw
            case rel => exact ⟨k + 1, by omega, by go_num, ⟨_, HE5.out⟩, G6.out⟩
            case measure => simp [intOf]; omega
          · have hz2 : (Z == 0) = false := by simpa using hz
            have hFF : F' = F := by rcases HZ.out with h | h; exact absurd h hz; exact h
            subst hFF
            clear hz
            go_wp2_with fail
            refine (free_ef wc _ B 0 F' HE5.out).mono ?_; rintro e w7 ⟨⟨gs', a7, c7, rfl, ho, hS⟩, g7⟩
            obtain rfl := same_uniq HS.out hS
            have HJ : Hid (IsE w7 a7 c7 gs) := RdS.row ho (flat_one _)
            have HI7 := Lib.hid (IsE.keep HI5.out g7 (fun _ _ h => h))
            have HE7 := Lib.hid (HE5.out.chg g7 (fun _ _ h => h.elim) id)
            have G7 := Lib.hid (G6.out.trans g7 (fun _ _ h => h))
            clear ho hS g7
            go_wp2_with fail
            go_loopw [93] (fun i wr => ∃ k : Nat, k ≤ gs.length ∧ i = .int .i64 (↑k : Int) ∧ Hid (Chg (fun _ => False) w7 wr)) (fun i _ => gs.length - (intOf i).toNat)
            case atStart => exact ⟨0, by omega, rfl, Chg.refl _ _⟩
            case round =>
              obtain ⟨j, hj, rfl, HG2⟩ := hrel
              by_cases hjt : j < gs.length
              · obtain ⟨f, hf⟩ : ∃ f, gs[j]? = some f := ⟨_, List.getElem?_eq_getElem hjt⟩
                obtain ⟨g, o, rfl, lg, k0, k1⟩ := (IsE.keep HJ.out HG2.out (fun _ _ h => h)).at hf
                obtain ⟨g', o', rfl, lg', m0, m1⟩ := (IsE.keep HI7.out HG2.out (fun _ _ h => h)).at hf
                have hq : (Value.agg #[.int .i64 f.1, .int .i64 f.2]) = .agg #[.int .i64 f.1, .int .i64 f.2] := rfl
                clear hf hq
                go_wp2_with fail
                go_quiet (fail)
                go_wp2
                go_roundw
                case rel => exact ⟨j + 1, by omega, by go_num, HG2.out.trans (T := fun _ => False) (by repeat (first | with_reducible exact Chg.refl _ _ | with_reducible assumption | with_reducible refine Chg.drewN ?_ _ | with_reducible refine Chg.drew ?_ | with_reducible refine Chg.alloc ?_ _ | with_reducible refine Chg.setCell ?_ (by first | (left; rfl) | (right; exact Nat.le_refl _) | (right; simp; done) | (right; omega) | (right; simp at *; omega) | (simp at *; omega)) _ | with_reducible refine Chg.trans ?_ (by with_reducible assumption) (by intro i hi hT; first | exact hT | exact False.elim hT | omega | (simp at *; omega)))) (fun _ _ h => h)⟩
                case measure => simp [intOf]; omega
              · obtain rfl : j = gs.length := by omega
                go_wp2
                go_roundw
                case rel => exact ⟨k + 1, by omega, by go_num, ⟨_, HE7.out.chg HG2.out (fun _ _ h => h.elim) id⟩, G7.out.trans HG2.out (fun _ _ h => h)⟩
                case measure => simp [intOf]; omega
end Go.Proofs.Ytheiodnckjmieaa
