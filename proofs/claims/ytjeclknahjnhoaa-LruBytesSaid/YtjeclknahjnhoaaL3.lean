/- The law Bytes. (Printed by genlaws.py.) -/
import Derived.Test.YtjeclknahjnhoaaLi
namespace Go.Proofs.Ytjeclknahjnhoaa
set_option linter.unusedVariables false
open Go.RowKit

theorem key_wf {most : Int} {T K : List Pt} (h : Inv most T K) {j : Nat} {x : Int} (hx : (keysP (T ++ K))[j]? = some x) : (Lit.int .i64 x).wf = true := by
  obtain ⟨t, ht, rfl⟩ := List.mem_map.1 (List.mem_of_getElem? hx)
  exact WalkArith.wf_i64 (h.range t ht)
theorem at_nth {l : List Pt} {j : Nat} {t : Pt} (hn : (keysP l).Nodup) (h : l[j]? = some t) : atK l t.1 = t.2 ∧ hasK l t.1 = true := by
  have e := split_at h
  have hk := keys_split (A := l.take j) (B := l.drop (j + 1)) (x := t.1) (n := t.2) (by rw [← e]; exact hn)
  rw [e]
  exact ⟨atK_split (t := t) hk.1, by rw [hasK_append]; simp [hasK, isK]⟩
theorem kept_nth {T K : List Pt} {j : Nat} {t : Pt} (hn : (keysP (T ++ K)).Nodup) (h : (T ++ K)[j]? = some t) : hasK K t.1 = decide (T.length ≤ j) := by
  by_cases hj : T.length ≤ j
  · rw [decide_eq_true hj]
    rw [List.getElem?_append_right hj] at h
    exact hasK_iff.2 (List.mem_map.2 ⟨t, List.mem_of_getElem? h, rfl⟩)
  · rw [decide_eq_false hj]
    rw [List.getElem?_append_left (by omega)] at h
    have e := split_at h
    exact (sides hn (A := T.take j) (B := T.drop (j + 1)) (x := t.1) (n := t.2) e).2.2
theorem sum_kept {T K : List Pt} {j : Nat} {t : Pt} (h : (T ++ K)[j]? = some t) : sumP (K.take (j + 1 - T.length)) = sumP (K.take (j - T.length)) + if T.length ≤ j then t.2 else 0 := by
  by_cases hj : T.length ≤ j
  · rw [if_pos hj]
    rw [List.getElem?_append_right hj] at h
    have e : j + 1 - T.length = j - T.length + 1 := by omega
    rw [e, take_step h, sumP_append]; simp [sumP]
  · rw [if_neg hj]
    have e : j + 1 - T.length = 0 := by omega
    have e2 : j - T.length = 0 := by omega
    rw [e, e2]; simp [sumP]
set_option maxHeartbeats 4000000 in
set_option maxRecDepth 100000 in
theorem lruBytes_any (most : Int) (v : Value) (l : List (Int × Int × Int)) (w : World) (hm : (Lit.int .i64 most).wf = true) (hL : IsL3 .i64 .i64 .i64 w v l) :
    Calls Try.prog 5 #[.int .i64 most, v] w fun e w' => e = .returned (.bool true) ∧ Below w.heap.size w w' := by
  cases hbad : badRun most l.length with
  | true =>
    obtain ⟨hwf, a, cap, rfl, hlen, hc⟩ := hL
    have HBAD := Lib.hid hbad
    clear hwf hc hbad
    go_enter Try.func5, Try.ntmps5
    go_wp2_with fail
    refine (run_no w most a l.length cap HBAD.out hlen).mono ?_; rintro e w1 ⟨r, rfl, g1⟩
    have G1 := Lib.hid g1
    clear g1
    go_wp2_with fail
    refine (awake_any w1).mono ?_; rintro e w2 ⟨rfl, g2⟩
    have G2 := Lib.hid (G1.out.trans g2 fun _ _ h => h)
    clear g2
    go_wp2_with fail
    refine (awake_any w2).mono ?_; rintro e w3 ⟨rfl, g3⟩
    have G3 := Lib.hid (G2.out.trans g3 fun _ _ h => h)
    clear g3
    go_wp2
    go_ret
    exact ⟨rfl, Chg.below G3.out⟩
  | false =>
    have HBAD := Lib.hid hbad
    clear hbad
    go_enter Try.func5, Try.ntmps5
    go_wp2_with fail
    refine (run_ok w most v l HBAD.out hL).mono ?_; rintro e w1 ⟨b, r, T, K, rfl, hP1⟩
    have HP1 := Lib.hid hP1
    clear hP1
    go_wp2_with fail
    refine (awake_any w1).mono ?_; rintro e w2 ⟨rfl, g2⟩
    have HP := Lib.hid (HP1.out.still g2)
    clear g2 HP1
    go_wp2_with fail
    refine (order_p w w2 _ b r most 120 T K T K HP.out (by omega)).mono ?_; rintro e w5 ⟨⟨a5, c5, rfl, ho, k5⟩, hP⟩
    have HP5 := Lib.hid hP
    obtain ⟨ks, hks⟩ : ∃ ks, ks = keysP (T ++ K) := ⟨_, rfl⟩
    rw [← hks] at ho ⊢
    have HI5 : Hid (IsK w5 a5 c5 ks) := RdS.row ho (nums_one _)
    have HKS := Lib.hid hks
    have hkl : ks.length ≤ 120 := by have := HP5.out.len.1; rw [hks, keys_len, List.length_append]; omega
    have HLK : Hid (ks.length = (T ++ K).length) := by show _ = _; rw [hks, keys_len]
    have HKW : Hid (∀ (j : Nat) x, ks[j]? = some x → (Lit.int .i64 x).wf = true) := fun j x hx => key_wf HP5.out.inv.1 (by rw [← HKS.out]; exact hx)
    clear hP ho k5 hks
    go_wp2_with fail
    go_loop [7, 8, 31] (fun u s i => ∃ j : Nat, j ≤ ks.length ∧ i = .int .i64 (↑j : Int) ∧ u = .int .i64 (sumP ((T ++ K).take j)) ∧ s = .int .i64 (sumP (K.take (j - T.length)))) (fun _ _ i => ks.length - (intOf i).toNat)
    case atStart => exact ⟨0, by omega, rfl, rfl, by simp [sumP]⟩
    case round =>
      obtain ⟨j, hj, rfl, hu, hs⟩ := hrel
      by_cases hjt : j < ks.length
      · obtain ⟨⟨x, n⟩, ht⟩ : ∃ t, (T ++ K)[j]? = some t := ⟨_, List.getElem?_eq_getElem (by rw [← HLK.out]; exact hjt)⟩
        have hx : ks[j]? = some x := by rw [HKS.out, keysP, List.getElem?_map, ht]; rfl
        have hxw : (Lit.int .i64 x).wf = true := HKW.out j x hx
        obtain ⟨g, o, rfl, k0⟩ := HI5.out.at hx
        have hnd := HP5.out.inv.1.nodup
        have HA := Lib.hid (at_nth hnd ht)
        have HB := Lib.hid (kept_nth hnd ht)
        have HSK := Lib.hid (sum_kept ht)
        have HST : Hid (sumP ((T ++ K).take (j + 1)) = sumP ((T ++ K).take j) + n) := by show _ = _; rw [take_step ht, sumP_append]; simp [sumP]
        have hby := HP5.out.inv.1.bytes
        have hn := hby _ (List.mem_of_getElem? ht)
        simp only at hn
        have u1 := sum_nonneg (l := (T ++ K).take j) fun t h => (hby t (List.mem_of_mem_take h)).1
        have u2 := sum_le (l := (T ++ K).take j) fun t h => (hby t (List.mem_of_mem_take h)).2
        have s1 := sum_nonneg (l := K.take (j - T.length)) fun t h => (hby t (by simp [List.mem_of_mem_take h])).1
        have s2 := sum_le (l := K.take (j - T.length)) fun t h => (hby t (by simp [List.mem_of_mem_take h])).2
        have hKl : K.length ≤ 120 := by have := HP5.out.len.1; omega
        rw [List.length_take] at u2 s2
        obtain ⟨U, hU⟩ : ∃ U, U = sumP ((T ++ K).take j) := ⟨_, rfl⟩
        obtain ⟨S, hS⟩ : ∃ S, S = sumP (K.take (j - T.length)) := ⟨_, rfl⟩
        rw [← hU] at hu u1 u2
        rw [← hS] at hs s1 s2
        have u3 : U ≤ 1099511627776 * 1000 := by omega
        have s3 : S ≤ 1099511627776 * 1000 := by omega
        have HU := Lib.hid (And.intro hU hS)
        obtain rfl := hu
        obtain rfl := hs
        clear ht hx hnd hby u2 s2 hU hS
        go_wp2_with fail
        refine (has_p w w5 _ b r most 120 T K T K x HP5.out hxw).mono ?_; rintro e w6 ⟨rfl, rfl⟩
        rw [HA.out.1]
        go_wp2_with fail
        refine (kept_p w w5 _ b r most 120 T K T K x HP5.out hxw).mono ?_; rintro e w6 ⟨rfl, rfl⟩
        rw [HB.out]
        by_cases hTj : T.length ≤ j
        · rw [decide_eq_true hTj]
          go_wp2
          go_round
          case rel => exact ⟨j + 1, by omega, by go_num, by rw [HST.out, ← HU.out.1], by rw [HSK.out, if_pos hTj, ← HU.out.2]⟩
          case measure => simp [intOf]; omega
        · rw [decide_eq_false hTj]
          go_wp2
          go_round
          case rel => exact ⟨j + 1, by omega, by go_num, by rw [HST.out, ← HU.out.1], by rw [HSK.out, if_neg hTj, ← HU.out.2]; simp⟩
          case measure => simp [intOf]; omega
      · obtain rfl : j = ks.length := by omega
        have e1 : sumP ((T ++ K).take ks.length) = sumP T + sumP K := by rw [HLK.out, List.take_length, sumP_append]
        have e2 : sumP (K.take (ks.length - T.length)) = sumP K := by rw [HLK.out, List.length_append, Nat.add_sub_cancel_left, List.take_length]
        rw [e1] at hu
        rw [e2] at hs
        obtain ⟨U, hU⟩ : ∃ U, U = sumP T + sumP K := ⟨_, rfl⟩
        obtain ⟨S, hS⟩ : ∃ S, S = sumP K := ⟨_, rfl⟩
        rw [← hU] at hu
        rw [← hS] at hs
        have hSm : S ≤ most := by rw [hS]; exact HP5.out.inv.1.kept
        obtain rfl := hu
        obtain rfl := hs
        have HU := Lib.hid (And.intro hU hS)
        clear e1 e2 hU hS
        go_wp2_with fail
        refine (bytes_p w w5 _ b r most 120 T K T K HP5.out (by omega)).mono ?_; rintro e w6 ⟨rfl, hP, _⟩
        rw [← HU.out.1, ← HU.out.2]
        have HP6 := Lib.hid hP
        clear hP
        go_wp2
        go_ret
        exact ⟨by simp, Chg.below HP6.out.g⟩
end Go.Proofs.Ytjeclknahjnhoaa
