/- The law Refuses. -/
import Derived.Test.YtdoepjokaekckaaCe
import Derived.Test.YtdoepjokaekckaaBt
namespace Go.Proofs.Ytdoepjokaekckaa
set_option linter.unusedVariables false
open Go.RowKit

theorem offB_refused {room share : Int} {T K : List Tg} {ns : List Int} {t : Tg} {hs : List Int} (hi : DInv room share T K) (h : t.2.1 < 1 ∨ share < t.2.1 ∨ 200 < t.2.2.1.size ∨ (getX (T ++ K) t.1).isSome = true) : offB room share T K ns t hs = false := by
  rcases h with h | h | h | h
  · exact offB_bad (.inl h)
  · cases e : offB room share T K ns t hs with
    | false => rfl
    | true =>
      unfold offB at e
      simp only [Bool.and_eq_true] at e
      obtain ⟨⟨T2, K2⟩, hd2⟩ : ∃ D, D = dropsX T K (goesX room share T K t hs).G := ⟨_, rfl⟩
      have hfit := offer_fit (n := t.2.1) (s := t.2.2.1) (hs := hs) hi e.1.2 (T2 := T2) (K2 := K2) hd2.symm
      have h2 := hfit.2.1
      have h3 := ofX_nonneg (X := T2 ++ K2) (fun u hu => (hi.each u (hfit.2.2.2.2.mem_iff.2 (List.mem_append_right _ hu))).1.1) t.2.2.1.data.toList
      omega
  · exact offB_bad (.inr (.inr (.inl h)))
  · exact offB_bad (.inr (.inr (.inr h)))
theorem off_same {room share : Int} {T K : List Tg} {ns : List Int} {t : Tg} {hs : List Int} (h : offB room share T K ns t hs = false) : offT room share T K ns t hs = T ∧ offK room share T K ns t hs = K ∧ offG room share T K ns t hs = [] := by
  unfold offT offK offG
  rw [h]
  exact ⟨rfl, rfl, rfl⟩
set_option maxHeartbeats 16000000 in
set_option maxRecDepth 4000 in
theorem admitRefuses_any (v : Value) (xs : List Av) (x n : Int) (s : ByteArray) (nm : Int) (v2 : Value) (hs : List Int) (w : World) (hL : IsLA w v xs) (hxw : (Lit.int .i64 x).wf = true) (hnw : (Lit.int .i64 n).wf = true) (hsw : s.size ≤ maxLen) (hmw : (Lit.int .u64 nm).wf = true) (hH : IsL1 .i64 w v2 hs) :
    Calls Try.prog 6 #[v, .agg #[.int .i64 x, .int .i64 n, .string s, .int .u64 nm], v2] w fun e w' => e = .returned (.bool true) ∧ Below w.heap.size w w' := by
  obtain ⟨a, c, rfl, hlen, _⟩ := id hL.2
  have HL := Lib.hid hL
  have hhw := hH.1
  obtain ⟨a2, c2, rfl, hlen2, hHc⟩ := id hH.2
  have HH0 : Hid (IsH w a2 hs) := fun j y hj => by
    have hl := (List.getElem?_eq_some_iff.1 hj).1
    obtain ⟨b, off, rfl, _, hc⟩ := hHc (by omega)
    exact ⟨b, off, rfl, hc j y hj⟩
  have HHW := Lib.hid hhw
  clear hL hH hHc hhw
  go_enter Try.func6, Try.ntmps6
  go_upto_region 1 with fail
  refine name_region ?_; intro W hW
  have gW : Chg (fun _ => False) w W := by subst hW; exact (by repeat (first | with_reducible exact Chg.refl _ _ | with_reducible assumption | with_reducible refine Chg.drewN ?_ _ | with_reducible refine Chg.drew ?_ | with_reducible refine Chg.alloc ?_ _ | with_reducible refine Chg.setCell ?_ (by first | (left; rfl) | (left; left; rfl) | (left; right; rfl) | (left; right; left; rfl) | (left; right; right; rfl) | (right; exact Nat.le_refl _) | (right; simp; done) | (right; omega) | (right; simp at *; omega) | (simp at *; omega)) _ | with_reducible refine Chg.trans ?_ (by with_reducible assumption) (by intro i hi hT; first | exact hT | exact False.elim hT | omega | (simp at *; omega))))
  have b0 : W.cell? ⟨w.heap.size, 0, none⟩ = some (.int .i64 x) := by subst hW; go_simp
  have b1 : W.cell? ⟨w.heap.size, 1, none⟩ = some (.int .i64 n) := by subst hW; go_simp
  have b2 : W.cell? ⟨w.heap.size, 2, none⟩ = some (.string s) := by subst hW; go_simp
  have b3 : W.cell? ⟨w.heap.size, 3, none⟩ = some (.int .u64 nm) := by subst hW; go_simp
  clear hW
  have lW := cell_lt b0
  go_wp2_with fail
  refine (alive_any W).mono ?_; rintro e w1 ⟨rfl, g1⟩
  have G1 := Lib.hid (gW.trans g1 fun _ _ h => h)
  replace b0 := (g1.cell lW id _).trans b0
  replace b1 := (g1.cell lW id _).trans b1
  replace b2 := (g1.cell lW id _).trans b2
  replace b3 := (g1.cell lW id _).trans b3
  have HB := Lib.hid (And.intro b0 (And.intro b1 (And.intro b2 b3)))
  have l1 := cell_lt b0
  clear g1 gW
  by_cases h40 : (40 : Int) < ↑xs.length
  · go_wp2
    go_ret
    exact ⟨rfl, Chg.below G1.out⟩
  by_cases h20 : (20 : Int) < ↑hs.length
  · go_wp2
    go_ret
    exact ⟨rfl, Chg.below G1.out⟩
  by_cases h300 : (300 : Int) < ↑s.size
  · go_wp2
    go_ret
    exact ⟨rfl, Chg.below G1.out⟩
  have h40' : xs.length ≤ 40 := by omega
  have h20' : hs.length ≤ 20 := by omega
  go_wp2_with fail
  refine (new_door w1 60 40 (by omega)).mono ?_; rintro e w2 ⟨d, lab0, rfl, hd, hl, g2⟩
  have H2 := Lib.hid hd
  have L2 := Lib.hid (And.intro hl g2)
  clear hd hl g2
  go_wp2_with fail
  refine (rnew_door w2 60 40 (by omega)).mono ?_; rintro e w3 ⟨b, lr0, rfl, hd, hl, g3⟩
  have H3 : Hid (PlI w1 lab0 lr0 d b 60 40 0 [] [] [] 0 w3) := ⟨H2.out.still g3, hd, fun i => by
    rcases Nat.lt_or_ge i w2.heap.size with h | h
    · exact .inr (hl i h)
    · exact .inl (H2.out.low h), L2.out.2.trans g3 fun _ _ h => h, fun i hi => ⟨L2.out.1 i hi, hl i (Nat.lt_of_lt_of_le hi L2.out.2.size)⟩, by simp, by simp, by simp⟩
  clear hd hl g3 b0 b1 b2 b3
  go_wp2_with fail
  go_loopw [47] (fun i wr => ∃ (k : Nat) (lab lr : Nat → Nat) (N : Nat) (T K : List Tg), k ≤ xs.length ∧ i = .int .i64 (↑k : Int) ∧ Hid (PlI w1 lab lr d b 60 40 N T K [] k wr)) (fun i _ => xs.length - (intOf i).toNat)
  case atStart => exact ⟨0, lab0, lr0, 0, [], [], by omega, rfl, H3.out⟩
  case round =>
    obtain ⟨k, lab, lr, N, T, K, hk, rfl, HR⟩ := hrel
    obtain ⟨wo, hwo⟩ : ∃ wo, wo = wr := ⟨_, rfl⟩
    subst hwo
    have GO : Hid (Chg (fun _ => False) w wo) := G1.out.trans HR.out.g fun _ _ h => h
    have hrn := HR.out.n
    have hrl := HR.out.l
    by_cases hkt : k < xs.length
    · obtain ⟨⟨kd, ⟨y, m, q, qn⟩, ks⟩, ht⟩ : ∃ t, xs[k]? = some t := ⟨_, List.getElem?_eq_getElem hkt⟩
      obtain ⟨g, o, rfl, lg, q0, q1, q2, q3, q4, ha, hc, q5, q6, q7⟩ := HL.out.at ht
      obtain ⟨wkd, ⟨yw, mw, qsw, qnw⟩, hks, hkb⟩ := HL.out.1 _ (List.mem_of_getElem? ht)
      simp only at q0 q1 q2 q3 q4 q5 q6 q7 wkd yw mw qsw qnw hks hkb
      have HWF := Lib.hid (And.intro yw (And.intro mw (And.intro qsw qnw)))
      have HKS := Lib.hid hks
      have hkb' : ks.length * 8 ≤ 140737488351232 := hkb
      have HQ7 := Lib.hid q7
      have HK0 := Lib.hid (q7.keep GO.out)
      have k0 := (GO.out.cell lg id _).trans q0
      have k1 := (GO.out.cell lg id _).trans q1
      have k2 := (GO.out.cell lg id _).trans q2
      have k3 := (GO.out.cell lg id _).trans q3
      have k4 := (GO.out.cell lg id _).trans q4
      have k5 := (GO.out.cell lg id _).trans q5
      clear q0 q1 q2 q3 q4 q5 q6 q7 ht lg wkd yw mw qsw qnw hks hkb
      go_upto_region 12 with fail
      refine name_region ?_; intro W4 hW4
      have gW : Chg (fun _ => False) wo W4 := by subst hW4; exact (by repeat (first | with_reducible exact Chg.refl _ _ | with_reducible assumption | with_reducible refine Chg.drewN ?_ _ | with_reducible refine Chg.drew ?_ | with_reducible refine Chg.alloc ?_ _ | with_reducible refine Chg.setCell ?_ (by first | (left; rfl) | (left; left; rfl) | (left; right; rfl) | (left; right; left; rfl) | (left; right; right; rfl) | (right; exact Nat.le_refl _) | (right; simp; done) | (right; omega) | (right; simp at *; omega) | (simp at *; omega)) _ | with_reducible refine Chg.trans ?_ (by with_reducible assumption) (by intro i hi hT; first | exact hT | exact False.elim hT | omega | (simp at *; omega))))
      have f0 : W4.cell? ⟨wo.heap.size, 0, none⟩ = some (.int .i64 kd) := by subst hW4; go_simp
      have f1 : W4.cell? ⟨wo.heap.size, 1, none⟩ = some (.int .i64 y) := by subst hW4; go_simp
      have f2 : W4.cell? ⟨wo.heap.size, 2, none⟩ = some (.int .i64 m) := by subst hW4; go_simp
      have f3 : W4.cell? ⟨wo.heap.size, 3, none⟩ = some (.string q) := by subst hW4; go_simp
      have f4 : W4.cell? ⟨wo.heap.size, 4, none⟩ = some (.int .u64 qn) := by subst hW4; go_simp
      have f5 : W4.cell? ⟨wo.heap.size, 5, none⟩ = some (.slice ha ks.length hc) := by subst hW4; go_simp
      clear hW4 k0 k1 k2 k3 k4 k5
      have HW := Lib.hid (HR.out.still gW)
      have HKW := Lib.hid (HK0.out.keep gW)
      have zb : lab wo.heap.size = 0 := HR.out.dr.low (Nat.le_refl _)
      have ZB := Lib.hid zb
      have l4 := cell_lt f0
      clear gW zb HK0
      by_cases hkd : kd = 0
      · subst hkd
        go_upto_region 13 with fail
        (have hN : W4.heap.size ≤ (World.heap W4).size := by first | assumption | exact Nat.le_refl _ | (simp; done) | omega | (simp; omega) | (simp at *; omega)); (have kr := fun d os b o (h : b < W4.heap.size) => (below_regrown W4 d os).cell (p := ⟨b, o, none⟩) (Nat.lt_of_lt_of_le h hN)); (refine wp_region_below_tail 6 (by kernel_rfl) (by kernel_rfl) ?_); (simp only [List.take_succ_cons, List.take_zero, List.drop_succ_cons, List.drop_zero]); (repeat (first | go_big_quiet_step ((first | (go_at_call 12; exact Calls.regrown_of (thing_bel _ y m q qn)))) | quiet_step ((first | (go_at_call 12; exact Calls.regrown_of (thing_bel _ y m q qn)))))); (refine wpQuiet_nil ?_); (intro wA hw9); (obtain ⟨⟨dq, osq⟩, hw9⟩ := hw9); (have g9 := below_regrown W4 dq osq); (rw [← hw9] at g9); (have gA : Below (W4.heap.size) _ wA := g9.mono hN); (have zA : W4.heap.size ≤ wA.heap.size := Nat.le_trans hN g9.size); (have cA := fun b o h => gA.cell (p := ⟨b, o, none⟩) h); (have fA := fun b o h => gA.frozen (p := ⟨b, o, none⟩) h); (clear hw9 kr hN g9)
        have gA' : Chg (fun _ => False) W4 wA := ⟨gA.os, gA.tape, gA.output, zA, fun k hk _ => gA.block k hk⟩
        have HA := Lib.hid (HW.out.still gA')
        have HKA := Lib.hid (HKW.out.keep gA')
        replace f1 := (gA'.cell l4 id _).trans f1
        replace f2 := (gA'.cell l4 id _).trans f2
        replace f3 := (gA'.cell l4 id _).trans f3
        replace f4 := (gA'.cell l4 id _).trans f4
        replace f5 := (gA'.cell l4 id _).trans f5
        have lA := cell_lt f1
        have zA0 : lab wo.heap.size = 0 := ZB.out
        have hkl : ks.length ≤ 17592186044416 := by omega
        clear gA gA' zA cA fA f0
        go_wp2_with fail
        refine (offer_dr wA lab d N 60 40 T K [] y m q qn ha hc ks HA.out.dr (by omega) (wfI64 HWF.out.1) (wfU64 HWF.out.2.2.2) HWF.out.2.2.1 (by simp) HKA.out (by omega) (fun z hz => wfI64 (HKS.out z hz))).mono ?_; rintro e w9 hP
        obtain ⟨a9, c9, lab9, N9, rfl, _, _, hd9, hl9, F1, F2⟩ := off_nf hP HA.out.dr
        have HPH := Lib.hid (HA.out.half hd9 hl9)
        obtain ⟨ob, hob⟩ : ∃ u, u = offB 60 40 T K [] (y, m, q, qn) ks := ⟨_, rfl⟩
        obtain ⟨gl, hgl⟩ : ∃ u, u = (offG 60 40 T K [] (y, m, q, qn) ks).length := ⟨_, rfl⟩
        rw [← hob, ← hgl]
        replace f1 := (hl9.2.cell lA (by omega) _).trans f1
        replace f2 := (hl9.2.cell lA (by omega) _).trans f2
        replace f3 := (hl9.2.cell lA (by omega) _).trans f3
        replace f4 := (hl9.2.cell lA (by omega) _).trans f4
        replace f5 := (hl9.2.cell lA (by omega) _).trans f5
        clear hP hd9 hl9 hob hgl
        go_wp2_with fail
        refine (roffer_any w9 lr b 60 40 T K [] y m q qn ha hc ks HPH.out.rd (by omega) (wfI64 HWF.out.1) (wfU64 HWF.out.2.2.2) (by simp) (HQ7.out.keep (G1.out.trans HPH.out.g fun _ _ h => h)) (by omega)).mono ?_; rintro e w10 hR
        obtain ⟨a10, c10, lr10, rfl, _, _, hd10, hl10⟩ := roff_nf hR HPH.out.rd
        have HEND := Lib.hid (HPH.out.whole (k' := k + 1) hd10 hl10 (by omega) (by simp) (by omega))
        obtain ⟨ob2, hob⟩ : ∃ u, u = offB 60 40 T K [] (y, m, q, qn) ks := ⟨_, rfl⟩
        obtain ⟨gl2, hgl⟩ : ∃ u, u = (offG 60 40 T K [] (y, m, q, qn) ks).length := ⟨_, rfl⟩
        rw [← hob, ← hgl]
        clear hR hd10 hl10 hob hgl f1 f2 f3 f4 f5
        go_wp2
        go_roundw
        case rel => exact ⟨k + 1, lab9, lr10, N9, _, _, by omega, by go_num, HEND.out⟩
        case measure => simp [intOf]; omega
      · have q1 : (kd == 0) = false := by simpa using hkd
        clear hkd
        go_wp2
        go_roundw
        case rel => exact ⟨k + 1, lab, lr, N, T, K, by omega, by go_num, HW.out.up⟩
        case measure => simp [intOf]; omega
    · obtain rfl : k = xs.length := by omega
      have b0 := (HR.out.g.cell l1 id _).trans HB.out.1
      have b1 := (HR.out.g.cell l1 id _).trans HB.out.2.1
      have b2 := (HR.out.g.cell l1 id _).trans HB.out.2.2.1
      have b3 := (HR.out.g.cell l1 id _).trans HB.out.2.2.2
      have lo := cell_lt b0
      have HI : Hid (DInv 60 40 T K) := HR.out.rd.inv
      go_wp2_with fail
      refine (thing_any wo x n s nm).mono ?_; rintro e w4 ⟨rfl, g4⟩
      have H4 := Lib.hid (HR.out.still g4)
      replace b0 := (g4.cell lo id _).trans b0
      replace b1 := (g4.cell lo id _).trans b1
      replace b2 := (g4.cell lo id _).trans b2
      have l4 := cell_lt b0
      clear g4 b3
      go_wp2_with fail
      refine (offer_dr w4 lab d N 60 40 T K [] x n s nm a2 c2 hs H4.out.dr (by omega) (wfI64 hxw) (wfU64 hmw) hsw (by simp) (HH0.out.keep (G1.out.trans H4.out.g fun _ _ h => h)) (by omega) (fun z hz => wfI64 (HHW.out z hz))).mono ?_; rintro e w5 hP
      obtain ⟨a5, c5, lab5, N5, rfl, _, _, hd5, hl5, F1, F2⟩ := off_nf hP H4.out.dr
      have HPH := Lib.hid (H4.out.half hd5 hl5)
      have zb : lab w.heap.size = 0 := (H4.out.z _ (by omega)).1
      replace b0 := (hl5.2.cell l4 (by omega) _).trans b0
      replace b1 := (hl5.2.cell l4 (by omega) _).trans b1
      replace b2 := (hl5.2.cell l4 (by omega) _).trans b2
      have G5 : Hid (Chg (fun _ => False) w w5) := G1.out.trans HPH.out.g fun _ _ h => h
      have hN5 : N5 ≤ 990 := by omega
      have hl9 : (T ++ K).length ≤ 990 := by omega
      have l5 := cell_lt b0
      clear hd5 hl5 hP zb
      cases hob : offB 60 40 T K [] (x, n, s, nm) hs with
      | true =>
        obtain ⟨gl, hgl⟩ : ∃ u, u = (offG 60 40 T K [] (x, n, s, nm) hs).length := ⟨_, rfl⟩
        rw [← hgl]
        have hno : ¬ (n < 1 ∨ 40 < n ∨ 200 < s.size ∨ (getX (T ++ K) x).isSome = true) := fun h => by
          have := offB_refused (room := 60) (share := 40) (ns := []) (hs := hs) (t := (x, n, s, nm)) HI.out h
          rw [hob] at this; cases this
        have h1 : 1 ≤ n := by omega
        have h2 : n ≤ 40 := by omega
        have h3 : ¬ (200 : Int) < ↑s.size := by omega
        have HG : Hid ((getX (T ++ K) x).isSome = false) := by
          show _ = _
          cases e : (getX (T ++ K) x).isSome with
          | false => rfl
          | true => exact absurd (.inr (.inr (.inr e))) hno
        clear hno hob hgl F1 F2
        go_wp2_with fail
        refine (rhas_any w5 lr b 60 40 T K [] x HPH.out.rd).mono ?_; rintro e w6 ⟨rfl, g6⟩
        rw [HG.out]
        have G6 := Lib.hid (G5.out.trans g6 fun _ _ h => h)
        clear g6
        go_wp2
        go_ret
        exact ⟨rfl, Chg.below G6.out⟩
      | false =>
        obtain ⟨eT, eK, eG⟩ := off_same hob
        have HP5 := HPH.out
        rw [eT, eK] at HP5
        have HPS := Lib.hid HP5
        rw [eG]
        clear HP5 eT eK eG hob F1 F2
        by_cases h1 : n < 1
        · go_wp2_with fail
          refine (same_any w5 lab5 d N5 lr b 60 40 T K [] [] s HPS.out.dr HPS.out.rd hN5 hl9 hsw).mono ?_; rintro e w6 ⟨rfl, g6⟩
          have G6 := Lib.hid (G5.out.trans g6 fun _ _ h => h)
          clear g6
          go_wp2
          go_ret
          exact ⟨rfl, Chg.below G6.out⟩
        by_cases h2 : 40 < n
        · go_wp2_with fail
          refine (same_any w5 lab5 d N5 lr b 60 40 T K [] [] s HPS.out.dr HPS.out.rd hN5 hl9 hsw).mono ?_; rintro e w6 ⟨rfl, g6⟩
          have G6 := Lib.hid (G5.out.trans g6 fun _ _ h => h)
          clear g6
          go_wp2
          go_ret
          exact ⟨rfl, Chg.below G6.out⟩
        by_cases h3 : (200 : Int) < ↑s.size
        · go_wp2_with fail
          refine (same_any w5 lab5 d N5 lr b 60 40 T K [] [] s HPS.out.dr HPS.out.rd hN5 hl9 hsw).mono ?_; rintro e w6 ⟨rfl, g6⟩
          have G6 := Lib.hid (G5.out.trans g6 fun _ _ h => h)
          clear g6
          go_wp2
          go_ret
          exact ⟨rfl, Chg.below G6.out⟩
        go_wp2_with fail
        refine (rhas_any w5 lr b 60 40 T K [] x HPS.out.rd).mono ?_; rintro e w6 ⟨rfl, g6⟩
        replace b2 := (g6.cell l5 id _).trans b2
        have HP6 := Lib.hid (HPS.out.still g6)
        have G6 := Lib.hid (G5.out.trans g6 fun _ _ h => h)
        clear g6 b0 b1
        cases hhas : (getX (T ++ K) x).isSome with
        | true =>
          clear hhas
          go_wp2_with fail
          refine (same_any w6 lab5 d N5 lr b 60 40 T K [] [] s HP6.out.dr HP6.out.rd hN5 hl9 hsw).mono ?_; rintro e w7 ⟨rfl, g7⟩
          have G7 := Lib.hid (G6.out.trans g7 fun _ _ h => h)
          clear g7
          go_wp2
          go_ret
          exact ⟨rfl, Chg.below G7.out⟩
        | false =>
          clear hhas
          go_wp2_with fail
          refine (same_any w6 lab5 d N5 lr b 60 40 T K [] [] s HP6.out.dr HP6.out.rd hN5 hl9 hsw).mono ?_; rintro e w7 ⟨rfl, g7⟩
          have G7 := Lib.hid (G6.out.trans g7 fun _ _ h => h)
          clear g7
          go_wp2
          go_ret
          exact ⟨rfl, Chg.below G7.out⟩
end Go.Proofs.Ytdoepjokaekckaa
