/- The law Order. (Printed by genlaws.py.) -/
import Derived.Test.YtjeclknahjnhoaaLz
namespace Go.Proofs.Ytjeclknahjnhoaa
set_option linter.unusedVariables false
open Go.RowKit

theorem key_wf {most : Int} {T K : List Pt} (h : Inv most T K) {j : Nat} {x : Int} (hx : (keysP (T ++ K))[j]? = some x) : (Lit.int .i64 x).wf = true := by
  obtain ⟨t, ht, rfl⟩ := List.mem_map.1 (List.mem_of_getElem? hx)
  exact WalkArith.wf_i64 (h.range t ht)
theorem at_nth {l : List Pt} {j : Nat} {t : Pt} (hn : (keysP l).Nodup) (h : l[j]? = some t) : atK l t.1 = t.2 ∧ hasK l t.1 = true := by
  have e := split_at h
  have hk := keys_split (A := l.take j) (B := l.drop (j + 1)) (x := t.1) (n := t.2) (by rw [← e]; exact hn)
  rw [e]
  exact ⟨atK_split (t := t) hk.1, by rw [hasK_append]; simp [hasK, isK]⟩
theorem kept_nth {T K : List Pt} {j : Nat} {t : Pt} (hn : (keysP (T ++ K)).Nodup) (h : (T ++ K)[j]? = some t) : hasK K t.1 = decide (T.length ≤ j) := by
  by_cases hj : T.length ≤ j
  · rw [decide_eq_true hj]
    rw [List.getElem?_append_right hj] at h
    exact hasK_iff.2 (List.mem_map.2 ⟨t, List.mem_of_getElem? h, rfl⟩)
  · rw [decide_eq_false hj]
    rw [List.getElem?_append_left (by omega)] at h
    have e := split_at h
    exact (sides hn (A := T.take j) (B := T.drop (j + 1)) (x := t.1) (n := t.2) e).2.2
theorem sum_kept {T K : List Pt} {j : Nat} {t : Pt} (h : (T ++ K)[j]? = some t) : sumP (K.take (j + 1 - T.length)) = sumP (K.take (j - T.length)) + if T.length ≤ j then t.2 else 0 := by
  by_cases hj : T.length ≤ j
  · rw [if_pos hj]
    rw [List.getElem?_append_right hj] at h
    have e : j + 1 - T.length = j - T.length + 1 := by omega
    rw [e, take_step h, sumP_append]; simp [sumP]
  · rw [if_neg hj]
    have e : j + 1 - T.length = 0 := by omega
    have e2 : j - T.length = 0 := by omega
    rw [e, e2]; simp [sumP]
set_option maxHeartbeats 4000000 in
set_option maxRecDepth 100000 in
theorem lruOrder_any (most : Int) (v : Value) (l : List (Int × Int × Int)) (w : World) (hm : (Lit.int .i64 most).wf = true) (hL : IsL3 .i64 .i64 .i64 w v l) :
    Calls Try.prog 4 #[.int .i64 most, v] w fun e w' => e = .returned (.bool true) ∧ Below w.heap.size w w' := by
  cases hbad : badRun most l.length with
  | true =>
    obtain ⟨hwf, a, cap, rfl, hlen, hc⟩ := hL
    have HBAD := Lib.hid hbad
    clear hwf hc hbad
    go_enter Try.func4, Try.ntmps4
    go_wp2_with fail
    refine (run_no w most a l.length cap HBAD.out hlen).mono ?_; rintro e w1 ⟨r, rfl, g1⟩
    have G1 := Lib.hid g1
    clear g1
    go_wp2_with fail
    refine (awake_any w1).mono ?_; rintro e w2 ⟨rfl, g2⟩
    have G2 := Lib.hid (G1.out.trans g2 fun _ _ h => h)
    clear g2
    go_wp2_with fail
    refine (awake_any w2).mono ?_; rintro e w3 ⟨rfl, g3⟩
    have G3 := Lib.hid (G2.out.trans g3 fun _ _ h => h)
    clear g3
    go_wp2
    go_ret
    exact ⟨rfl, Chg.below G3.out⟩
  | false =>
    have HBAD := Lib.hid hbad
    clear hbad
    have hL' := hL
    obtain ⟨hwf1, a1, cap1, rfl, hlen1, hc1⟩ := hL'
    have HC1 := Lib.hid hc1
    have HWF1 := Lib.hid hwf1
    have hmm := @run_makeMap Try.prog
    clear hc1 hwf1
    go_enter Try.func4, Try.ntmps4
    go_wp2_with fail
    refine (run_ok w most _ l HBAD.out hL).mono ?_; rintro e w1 ⟨b, r, T, K, rfl, hP1⟩
    have HP1 := Lib.hid hP1
    clear hP1
    go_wp2_with fail
    refine (awake_any w1).mono ?_; rintro e w2 ⟨rfl, g2⟩
    have HP := Lib.hid (HP1.out.still g2)
    clear g2 HP1
    go_upto_region 5 with fail
    refine name_region ?_; intro W hW
    have gW : Chg (fun _ => False) w2 W := by subst hW; exact (by repeat (first | with_reducible exact Chg.refl _ _ | with_reducible assumption | with_reducible refine Chg.drewN ?_ _ | with_reducible refine Chg.drew ?_ | with_reducible refine Chg.alloc ?_ _ | with_reducible refine Chg.setCell ?_ (by first | (left; rfl) | (left; left; rfl) | (left; right; rfl) | (left; right; left; rfl) | (left; right; right; rfl) | (right; exact Nat.le_refl _) | (right; simp; done) | (right; omega) | (right; simp at *; omega) | (simp at *; omega)) _ | with_reducible refine Chg.trans ?_ (by with_reducible assumption) (by intro i hi hT; first | exact hT | exact False.elim hT | omega | (simp at *; omega))))
    have hS : SetM W w2.heap.size [] := by subst hW; exact setM_made w2
    have zW : w2.heap.size < W.heap.size := by subst hW; simp
    clear hW
    obtain ⟨mb, hmb⟩ : ∃ mb, mb = w2.heap.size := ⟨_, rfl⟩
    obtain ⟨Z, hZ⟩ : ∃ Z : Nat → Prop, Z = fun i => False ∨ (w2.heap.size ≤ i ∧ i < W.heap.size) := ⟨_, rfl⟩
    have HPW : Hid (P4 w Z b r most 120 T K T K W) := by rw [hZ]; exact HP.out.box gW
    have HZM : Hid (Z mb ∧ w.heap.size ≤ mb) := by
      refine ⟨by rw [hZ, hmb]; exact .inr ⟨Nat.le_refl _, zW⟩, ?_⟩
      rw [hmb]; exact HP.out.g.size
    rw [← hmb] at hS ⊢
    have HSW := Lib.hid hS
    clear hS gW zW hZ hmb
    go_wp2_with fail
    refine (order_p w W Z b r most 120 T K T K HPW.out (by omega)).mono ?_; rintro e w5 ⟨⟨a5, c5, rfl, ho, k5⟩, hP⟩
    have HP5 := Lib.hid hP
    obtain ⟨ks, hks⟩ : ∃ ks, ks = keysP (T ++ K) := ⟨_, rfl⟩
    rw [← hks] at ho ⊢
    have HI5 : Hid (IsK w5 a5 c5 ks) := RdS.row ho (nums_one _)
    have HNB : Hid (∀ g, (Value.slice a5 ks.length c5).ownBlock = some g → g ≠ mb) := fun g hg e => by
      have h1 := (own_below ho hg).1
      have h2 := HSW.out.lt
      omega
    have HS5 : Hid (SetM w5 mb []) := HSW.out.chg k5 id
    have HKS := Lib.hid hks
    have hkl : ks.length ≤ 120 := by have := HP5.out.len.1; rw [hks, keys_len, List.length_append]; omega
    have HLK : Hid (ks.length = (T ++ K).length) := by show _ = _; rw [hks, keys_len]
    have HKW : Hid (∀ (j : Nat) x, ks[j]? = some x → (Lit.int .i64 x).wf = true) := fun j x hx => key_wf HP5.out.inv.1 (by rw [← HKS.out]; exact hx)
    have HKN : Hid ks.Nodup := by rw [hks]; exact HP5.out.inv.1.nodup
    clear hP ho k5 hks
    go_wp2_with fail
    go_loopw [8, 34] (fun c i wr => ∃ j : Nat, j ≤ ks.length ∧ i = .int .i64 (↑j : Int) ∧ c = .bool (decide (T.length < j)) ∧ Hid (∃ Y, SetM wr mb Y ∧ Y.length = j ∧ ∀ z, z ∈ Y ↔ z ∈ ks.take j) ∧ Hid (IsK wr a5 c5 ks) ∧ Hid (P4 w Z b r most 120 T K T K wr)) (fun _ i _ => ks.length - (intOf i).toNat)
    case atStart => exact ⟨0, by omega, rfl, rfl, ⟨[], HS5.out, rfl, fun z => by simp⟩, HI5, HP5⟩
    case round =>
      obtain ⟨j, hj, rfl, rfl, HY, HI, HQ⟩ := hrel
      by_cases hjt : j < ks.length
      · obtain ⟨⟨x, n⟩, ht⟩ : ∃ t, (T ++ K)[j]? = some t := ⟨_, List.getElem?_eq_getElem (by rw [← HLK.out]; exact hjt)⟩
        have hx : ks[j]? = some x := by rw [HKS.out, keysP, List.getElem?_map, ht]; rfl
        have hxw : (Lit.int .i64 x).wf = true := HKW.out j x hx
        obtain ⟨g, o, rfl, k0⟩ := HI.out.at hx
        have hnd := HQ.out.inv.1.nodup
        have HA := Lib.hid (at_nth hnd ht)
        have HB := Lib.hid (kept_nth hnd ht)
        obtain ⟨Y, hY1, hY2, hY3⟩ := HY.out
        have HYS := Lib.hid hY1
        have HYM := Lib.hid hY3
        have HXN : Hid (x ∉ Y) := fun hxY => by
          have h1 := (hY3 x).1 hxY
          obtain ⟨hl, he⟩ := List.getElem?_eq_some_iff.1 hx
          have e : ks.take j ++ x :: ks.drop (j + 1) = ks := by rw [← he, List.getElem_cons_drop, List.take_append_drop]
          have hn := HKN.out
          rw [← e, List.nodup_append] at hn
          exact hn.2.2 x h1 x (by simp) rfl
        have HX := Lib.hid hx
        have hYl : Y.length ≤ 120 := by omega
        have HYL := Lib.hid hY2
        obtain ⟨N, hN⟩ : ∃ N, N = atK (T ++ K) x := ⟨_, rfl⟩
        have HN := Lib.hid hN
        clear ht hx hnd hY1 hY2 hY3 hN
        go_wp2_with fail
        refine (has_p w wr Z b r most 120 T K T K x HQ.out hxw).mono ?_; rintro e w6 ⟨rfl, rfl⟩
        rw [HA.out.2, ← HN.out]
        by_cases hTj : T.length < j
        · have hTj2 : T.length ≤ j := by omega
          have HKT : Hid (hasK K x = true) := by show _ = _; rw [HB.out, decide_eq_true hTj2]
          rw [decide_eq_true hTj]
          go_wp2_with (at_lookup; go_loud (refine list_get rfl _ _ rfl mb Y rfl HYS.out x rfl hxw ?_; rw [decide_eq_false HXN.out]))
          refine (kept_p w wr Z b r most 120 T K T K x HQ.out hxw).mono ?_; rintro e w6 ⟨rfl, rfl⟩
          rw [HKT.out]
          go_wp2_with (at_mapUpdate; go_loud (refine list_put rfl _ _ _ rfl mb Y rfl HYS.out (by omega) x rfl rfl hxw HXN.out ?_; intro w7 hm7 hg7; have HM7 := Lib.hid hm7; have HP7 : Hid (P4 w Z b r most 120 T K T K w7) := (HQ.out.aside hg7 fun i _ hi => (by rw [hi]; exact HZM.out)); have HI7 : Hid (IsK w7 (some ⟨g, o, none⟩) c5 ks) := (HI.out.keep hg7 fun g hg e => HNB.out g hg e); clear hm7 hg7))
          refine (kept_p w w7 Z b r most 120 T K T K x HP7.out hxw).mono ?_; rintro e w8 ⟨rfl, rfl⟩
          rw [HKT.out]
          go_wp2
          go_roundw
          case rel => exact ⟨j + 1, by omega, by go_num, by rw [decide_eq_true (by omega)], ⟨x :: Y, HM7.out, by simp [HYL.out], fun z => by rw [List.take_add_one, HX.out]; simp [HYM.out z, or_comm]⟩, HI7, HP7⟩
          case measure => simp [intOf]; omega
        · rw [decide_eq_false hTj]
          by_cases hTj2 : T.length ≤ j
          · have HKT : Hid (hasK K x = true) := by show _ = _; rw [HB.out, decide_eq_true hTj2]
            go_wp2_with (first | (at_lookup; go_loud (refine list_get rfl _ _ rfl mb Y rfl HYS.out x rfl hxw ?_; rw [decide_eq_false HXN.out])) | (at_mapUpdate; go_loud (refine list_put rfl _ _ _ rfl mb Y rfl HYS.out (by omega) x rfl rfl hxw HXN.out ?_; intro w7 hm7 hg7; have HM7 := Lib.hid hm7; have HP7 : Hid (P4 w Z b r most 120 T K T K w7) := (HQ.out.aside hg7 fun i _ hi => (by rw [hi]; exact HZM.out)); have HI7 : Hid (IsK w7 (some ⟨g, o, none⟩) c5 ks) := (HI.out.keep hg7 fun g hg e => HNB.out g hg e); clear hm7 hg7)))
            refine (kept_p w w7 Z b r most 120 T K T K x HP7.out hxw).mono ?_; rintro e w8 ⟨rfl, rfl⟩
            rw [HKT.out]
            go_wp2
            go_roundw
            case rel => exact ⟨j + 1, by omega, by go_num, by rw [decide_eq_true (by omega)], ⟨x :: Y, HM7.out, by simp [HYL.out], fun z => by rw [List.take_add_one, HX.out]; simp [HYM.out z, or_comm]⟩, HI7, HP7⟩
            case measure => simp [intOf]; omega
          · have HKT : Hid (hasK K x = false) := by show _ = _; rw [HB.out, decide_eq_false hTj2]
            go_wp2_with (first | (at_lookup; go_loud (refine list_get rfl _ _ rfl mb Y rfl HYS.out x rfl hxw ?_; rw [decide_eq_false HXN.out])) | (at_mapUpdate; go_loud (refine list_put rfl _ _ _ rfl mb Y rfl HYS.out (by omega) x rfl rfl hxw HXN.out ?_; intro w7 hm7 hg7; have HM7 := Lib.hid hm7; have HP7 : Hid (P4 w Z b r most 120 T K T K w7) := (HQ.out.aside hg7 fun i _ hi => (by rw [hi]; exact HZM.out)); have HI7 : Hid (IsK w7 (some ⟨g, o, none⟩) c5 ks) := (HI.out.keep hg7 fun g hg e => HNB.out g hg e); clear hm7 hg7)))
            refine (kept_p w w7 Z b r most 120 T K T K x HP7.out hxw).mono ?_; rintro e w8 ⟨rfl, rfl⟩
            rw [HKT.out]
            go_wp2
            go_roundw
            case rel => exact ⟨j + 1, by omega, by go_num, by rw [decide_eq_false (by omega)], ⟨x :: Y, HM7.out, by simp [HYL.out], fun z => by rw [List.take_add_one, HX.out]; simp [HYM.out z, or_comm]⟩, HI7, HP7⟩
            case measure => simp [intOf]; omega
      · obtain rfl : j = ks.length := by omega
        obtain ⟨Y, hY1, hY2, hY3⟩ := HY.out
        have HYM : Hid (∀ z, z ∈ Y ↔ z ∈ keysP (T ++ K)) := fun z => by rw [hY3 z, List.take_length, HKS.out]
        have HYS := Lib.hid hY1
        have hYl : Y.length ≤ 120 := by omega
        clear hY1 hY2 hY3
        go_wp2_with fail
        go_loopw [68] (fun i wr => ∃ j : Nat, j ≤ l.length ∧ i = .int .i64 (↑j : Int) ∧ Hid (SetM wr mb Y) ∧ Hid (P4 w Z b r most 120 T K T K wr)) (fun i _ => l.length - (intOf i).toNat)
        case atStart => exact ⟨0, by omega, rfl, HYS, HQ⟩
        case round =>
          obtain ⟨j, hj, rfl, HS, HQ⟩ := hrel
          by_cases hjt : j < l.length
          · obtain ⟨lb, lo, rfl, hlb, hc⟩ := HC1.out (by omega)
            obtain ⟨⟨kd, x, n⟩, hx⟩ : ∃ x, l[j]? = some x := ⟨_, List.getElem?_eq_getElem hjt⟩
            obtain ⟨kc0, kc1, kc2⟩ := hc j _ hx
            have HG := Lib.hid HQ.out.g
            have e0 : wr.cell? ⟨lb, lo + j * 3, none⟩ = some (.int .i64 kd) := by rw [HG.out.cell hlb id]; exact kc0
            have e1 : wr.cell? ⟨lb, lo + j * 3 + 1, none⟩ = some (.int .i64 x) := by rw [HG.out.cell hlb id]; exact kc1
            have e2 : wr.cell? ⟨lb, lo + j * 3 + 2, none⟩ = some (.int .i64 n) := by rw [HG.out.cell hlb id]; exact kc2
            have hw := (HWF1.out _ (List.mem_of_getElem? hx)).2.1
            clear kc0 kc1 kc2 hc hx
            go_wp2_with fail
            refine name_calls ?_; intro W2 hW2
            have gW2 : Chg (fun _ => False) wr W2 := by subst hW2; exact (by repeat (first | with_reducible exact Chg.refl _ _ | with_reducible assumption | with_reducible refine Chg.drewN ?_ _ | with_reducible refine Chg.drew ?_ | with_reducible refine Chg.alloc ?_ _ | with_reducible refine Chg.setCell ?_ (by first | (left; rfl) | (left; left; rfl) | (left; right; rfl) | (left; right; left; rfl) | (left; right; right; rfl) | (right; exact Nat.le_refl _) | (right; simp; done) | (right; omega) | (right; simp at *; omega) | (simp at *; omega)) _ | with_reducible refine Chg.trans ?_ (by with_reducible assumption) (by intro i hi hT; first | exact hT | exact False.elim hT | omega | (simp at *; omega))))
            have f1 : W2.cell? ⟨wr.heap.size, 1, none⟩ = some (.int .i64 x) := by subst hW2; go_simp
            clear hW2 e0 e1 e2
            have HP3 := Lib.hid (HQ.out.still gW2)
            have HS3 : Hid (SetM W2 mb Y) := HS.out.chg gW2 id
            obtain ⟨N, hN⟩ : ∃ N, N = atK (T ++ K) x := ⟨_, rfl⟩
            obtain ⟨d, hd⟩ : ∃ d, d = hasK (T ++ K) x := ⟨_, rfl⟩
            have HD : Hid (d = decide (x ∈ Y)) := by
              show _ = _
              rw [hd, Bool.eq_iff_iff, hasK_iff, decide_eq_true_iff, HYM.out x]
            have HN := Lib.hid (And.intro hN hd)
            clear gW2 hN hd
            refine (has_p w W2 Z b r most 120 T K T K x HP3.out hw).mono ?_; rintro e w6 ⟨rfl, rfl⟩
            rw [← HN.out.1, ← HN.out.2]
            go_wp2_with (at_lookup; go_loud (refine list_get rfl _ _ rfl mb Y rfl HS3.out x rfl hw ?_; rw [← HD.out]))
            go_roundw
            case rel => exact ⟨j + 1, by omega, by go_num, HS3, HP3⟩
            case measure => simp [intOf]; omega
          · obtain rfl : j = l.length := by omega
            go_wp2
            go_ret
            exact ⟨rfl, Chg.below HQ.out.g⟩
end Go.Proofs.Ytjeclknahjnhoaa
