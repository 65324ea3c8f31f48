/- The law Kept. (Printed by genlaws.py.) -/
import Derived.Test.YtjeclknahjnhoaaLi
namespace Go.Proofs.Ytjeclknahjnhoaa
set_option linter.unusedVariables false
open Go.RowKit

theorem key_wf {most : Int} {T K : List Pt} (h : Inv most T K) {j : Nat} {x : Int} (hx : (keysP (T ++ K))[j]? = some x) : (Lit.int .i64 x).wf = true := by
  obtain ⟨t, ht, rfl⟩ := List.mem_map.1 (List.mem_of_getElem? hx)
  exact WalkArith.wf_i64 (h.range t ht)
theorem last_key {l : List Int} {x : Int} : (l ++ [x])[l.length]? = some x := by simp
theorem touch_few {most x : Int} {T K : List Pt} (hh : hasK (T ++ K) x = true) (hn : atK (T ++ K) x ≤ most) : ∃ C, keysP ((touchS most T K x).1 ++ (touchS most T K x).2) = C ++ [x] ∧ hasK (touchS most T K x).2 x = true := by
  rw [touchS, if_pos hh]
  obtain ⟨A, B, h1, h2⟩ := spill_last most (x, atK (T ++ K) x) hn (delK K x) (delK T x)
  rw [h2]
  exact ⟨keysP (delK T x ++ A ++ B), by simp [keysP], by rw [hasK_append]; simp [hasK, isK]⟩
theorem touch_much {most x : Int} {T K : List Pt} (hi : Inv most T K) (hh : hasK (T ++ K) x = true) (hn : most < atK (T ++ K) x) : (∃ C, keysP ((touchS most T K x).1 ++ (touchS most T K x).2) = C ++ [x]) ∧ (touchS most T K x).2 = [] := by
  rw [touchS, if_pos hh]
  have h2 := spill_all most (x, atK (T ++ K) x) hn (delK K x) (delK T x) fun t ht => (hi.bytes t (List.mem_append.2 (.inr ((delK_sub K x).subset ht)))).1
  rw [h2]
  exact ⟨⟨keysP (delK T x ++ delK K x), by simp [keysP]⟩, rfl⟩
set_option maxHeartbeats 4000000 in
set_option maxRecDepth 100000 in
theorem lruKept_any (most : Int) (v : Value) (l : List (Int × Int × Int)) (key : Int) (w : World) (hm : (Lit.int .i64 most).wf = true) (hL : IsL3 .i64 .i64 .i64 w v l) (hk : (Lit.int .i64 key).wf = true) :
    Calls Try.prog 6 #[.int .i64 most, v, .int .i64 key] w fun e w' => e = .returned (.bool true) ∧ Below w.heap.size w w' := by
  cases hbad : badRun most l.length with
  | true =>
    obtain ⟨hwf, a, cap, rfl, hlen, hc⟩ := hL
    have HBAD := Lib.hid hbad
    clear hwf hc hbad
    go_enter Try.func6, Try.ntmps6
    go_wp2_with fail
    refine (run_no w most a l.length cap HBAD.out hlen).mono ?_; rintro e w1 ⟨r, rfl, g1⟩
    have G1 := Lib.hid g1
    clear g1
    go_wp2_with fail
    refine (awake_any w1).mono ?_; rintro e w2 ⟨rfl, g2⟩
    have G2 := Lib.hid (G1.out.trans g2 fun _ _ h => h)
    clear g2
    go_wp2_with fail
    refine (awake_any w2).mono ?_; rintro e w3 ⟨rfl, g3⟩
    have G3 := Lib.hid (G2.out.trans g3 fun _ _ h => h)
    clear g3
    go_wp2
    go_ret
    exact ⟨rfl, Chg.below G3.out⟩
  | false =>
    have HBAD := Lib.hid hbad
    clear hbad
    go_enter Try.func6, Try.ntmps6
    go_wp2_with fail
    refine (run_ok w most v l HBAD.out hL).mono ?_; rintro e w1 ⟨b, r, T, K, rfl, hP1⟩
    have HP1 := Lib.hid hP1
    clear hP1
    go_wp2_with fail
    refine (awake_any w1).mono ?_; rintro e w2 ⟨rfl, g2⟩
    have HP := Lib.hid (HP1.out.still g2)
    clear g2 HP1
    go_wp2_with fail
    refine (has_p w w2 _ b r most 120 T K T K key HP.out hk).mono ?_; rintro e w3 ⟨rfl, rfl⟩
    obtain ⟨d, hd⟩ : ∃ d, d = hasK (T ++ K) key := ⟨_, rfl⟩
    obtain ⟨n, hn⟩ : ∃ n, n = atK (T ++ K) key := ⟨_, rfl⟩
    rw [← hd, ← hn]
    have HD := Lib.hid hd
    have HN := Lib.hid hn
    clear hd hn
    go_wp2_with fail
    refine (touch_p w w2 _ b r most 120 T K T K key HP.out (by omega) hk).mono ?_; rintro e w4 ⟨rfl, hP, _⟩
    rw [← HD.out]
    have HP4 := Lib.hid hP
    clear hP
    obtain ⟨T2, hT2⟩ : ∃ T2, T2 = (touchS most T K key).1 := ⟨_, rfl⟩
    obtain ⟨K2, hK2⟩ : ∃ K2, K2 = (touchS most T K key).2 := ⟨_, rfl⟩
    rw [← hT2, ← hK2] at HP4
    have HT2 := Lib.hid (And.intro hT2 hK2)
    clear hT2 hK2
    cases d with
    | false =>
      go_wp2
      go_ret
      exact ⟨rfl, Chg.below HP4.out.g⟩
    | true =>
      go_wp2_with fail
      refine (order_p w w4 _ b r most 121 T2 K2 T K HP4.out (by omega)).mono ?_; rintro e w5 ⟨⟨a5, c5, rfl, ho, k5⟩, hP⟩
      have HP5 := Lib.hid hP
      have HHK : Hid (hasK (T ++ K) key = true) := HD.out.symm
      obtain ⟨ks, hks⟩ : ∃ ks, ks = keysP (T2 ++ K2) := ⟨_, rfl⟩
      rw [← hks] at ho ⊢
      have HI5 : Hid (IsK w5 a5 c5 ks) := RdS.row ho (nums_one _)
      have HKS := Lib.hid hks
      have HKW : Hid (∀ (j : Nat) x, ks[j]? = some x → (Lit.int .i64 x).wf = true) := fun j x hx => key_wf HP5.out.inv.1 (by rw [← HKS.out]; exact hx)
      have hkl : ks.length ≤ 121 := by have := HP5.out.len.1; rw [hks, keys_len, List.length_append]; omega
      clear hP ho k5 hks
      by_cases hle : n ≤ most
      · obtain ⟨C, hC, hK⟩ := touch_few (most := most) HHK.out (by rw [← HN.out]; exact hle)
        rw [← HT2.out.1, ← HT2.out.2, ← HKS.out] at hC
        rw [← HT2.out.2] at hK
        have hlen : ks.length = C.length + 1 := by rw [hC]; simp
        have hat : ks[C.length]? = some key := by rw [hC]; simp
        obtain ⟨g, o, rfl, k0⟩ := HI5.out.at hat
        have hpos : 0 < ks.length := by omega
        have hidx : (ks.length : Int) - 1 = (C.length : Int) := by omega
        have k1 : w5.cell? ⟨g, o + C.length, none⟩ = some (.int .i64 key) := k0
        have hl2 : C.length < ks.length := by omega
        have HK2 := Lib.hid hK
        have HLEN := Lib.hid hlen
        clear hat hC hK
        have hcl : (C.length : Int) ≤ 121 := by omega
        have hc0 : 0 ≤ (C.length : Int) := by omega
        rw [hlen]
        clear hkl hpos hidx hl2 hlen
        go_wp2_with fail
        refine (kept_p w w5 _ b r most 121 T2 K2 T K key HP5.out hk).mono ?_; rintro e w6 ⟨rfl, rfl⟩
        rw [HK2.out]
        go_wp2
        go_ret
        exact ⟨rfl, Chg.below HP5.out.g⟩
      · have q1 : decide (n ≤ most) = false := by simpa using hle
        obtain ⟨⟨C, hC⟩, hK⟩ := touch_much HP.out.inv.1 HHK.out (by rw [← HN.out]; omega)
        rw [← HT2.out.1, ← HT2.out.2, ← HKS.out] at hC
        rw [← HT2.out.2] at hK
        have hlen : ks.length = C.length + 1 := by rw [hC]; simp
        have hat : ks[C.length]? = some key := by rw [hC]; simp
        have HAT := Lib.hid hat
        have hcl : (C.length : Int) ≤ 121 := by omega
        have hc0 : 0 ≤ (C.length : Int) := by omega
        subst hK
        have HLEN := Lib.hid hlen
        rw [hlen]
        clear hat hC hlen hkl
        go_wp2_with fail
        go_loop [65] (fun i => ∃ j : Nat, j ≤ C.length + 1 ∧ i = .int .i64 (↑j : Int)) (fun i => C.length + 1 - (intOf i).toNat)
        case atStart => exact ⟨0, by omega, rfl⟩
        case round =>
          obtain ⟨j, hj, rfl⟩ := hrel
          by_cases hjt : j < C.length + 1
          · obtain ⟨x, hx⟩ : ∃ x, ks[j]? = some x := ⟨_, List.getElem?_eq_getElem (by rw [HLEN.out]; exact hjt)⟩
            have hxw : (Lit.int .i64 x).wf = true := HKW.out j x hx
            obtain ⟨g, o, rfl, k0⟩ := HI5.out.at hx
            clear hx
            have hj2 : (j : Int) < (C.length : Int) + 1 := by omega
            go_wp2_with fail
            refine (kept_p w w5 _ b r most 121 T2 [] T K x HP5.out hxw).mono ?_; rintro e w6 ⟨rfl, rfl⟩
            rw [show hasK [] x = false from rfl]
            go_wp2
            go_round
            case rel => exact ⟨j + 1, by omega, by go_num⟩
            case measure => simp [intOf]; omega
          · obtain rfl : j = C.length + 1 := by omega
            obtain ⟨g, o, rfl, k0⟩ := HI5.out.at HAT.out
            go_wp2_with fail
            refine (kept_p w w5 _ b r most 121 T2 [] T K key HP5.out hk).mono ?_; rintro e w6 ⟨rfl, rfl⟩
            rw [show hasK [] key = false from rfl]
            go_wp2
            go_ret
            exact ⟨rfl, Chg.below HP5.out.g⟩
end Go.Proofs.Ytjeclknahjnhoaa
