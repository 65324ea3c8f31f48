/- The law Drops. (Printed by genlaws.py.) -/
import Derived.Test.YtjeclknahjnhoaaLi
namespace Go.Proofs.Ytjeclknahjnhoaa
set_option linter.unusedVariables false
open Go.RowKit

set_option maxHeartbeats 4000000 in
set_option maxRecDepth 100000 in
theorem lruDrops_any (most : Int) (v : Value) (l : List (Int × Int × Int)) (key : Int) (w : World) (hm : (Lit.int .i64 most).wf = true) (hL : IsL3 .i64 .i64 .i64 w v l) (hk : (Lit.int .i64 key).wf = true) :
    Calls Try.prog 8 #[.int .i64 most, v, .int .i64 key] w fun e w' => e = .returned (.bool true) ∧ Below w.heap.size w w' := by
  cases hbad : badRun most l.length with
  | true =>
    obtain ⟨hwf, a, cap, rfl, hlen, hc⟩ := hL
    have HBAD := Lib.hid hbad
    clear hwf hc hbad
    go_enter Try.func8, Try.ntmps8
    go_wp2_with fail
    refine (run_no w most a l.length cap HBAD.out hlen).mono ?_; rintro e w1 ⟨r, rfl, g1⟩
    have G1 := Lib.hid g1
    clear g1
    go_wp2_with fail
    refine (awake_any w1).mono ?_; rintro e w2 ⟨rfl, g2⟩
    have G2 := Lib.hid (G1.out.trans g2 fun _ _ h => h)
    clear g2
    go_wp2_with fail
    refine (awake_any w2).mono ?_; rintro e w3 ⟨rfl, g3⟩
    have G3 := Lib.hid (G2.out.trans g3 fun _ _ h => h)
    clear g3
    go_wp2
    go_ret
    exact ⟨rfl, Chg.below G3.out⟩
  | false =>
    have HBAD := Lib.hid hbad
    clear hbad
    go_enter Try.func8, Try.ntmps8
    go_wp2_with fail
    refine (run_ok w most v l HBAD.out hL).mono ?_; rintro e w1 ⟨b, r, T, K, rfl, hP1⟩
    have HP1 := Lib.hid hP1
    clear hP1
    go_wp2_with fail
    refine (awake_any w1).mono ?_; rintro e w2 ⟨rfl, g2⟩
    have HP := Lib.hid (HP1.out.still g2)
    clear g2 HP1
    go_wp2_with fail
    refine (rhas_p w w2 _ b r most 120 T K T K key HP.out (by omega)).mono ?_; rintro e w3 ⟨rfl, hP, _⟩
    have HP3 := Lib.hid hP
    obtain ⟨d, hd⟩ : ∃ d, d = hasK (T ++ K) key := ⟨_, rfl⟩
    rw [← hd]
    have HD := Lib.hid hd
    clear hP hd
    go_wp2_with fail
    refine (drop_p w w3 _ b r most 120 T K T K key HP3.out (by omega) hk).mono ?_; rintro e w4 ⟨rfl, hP, _⟩
    rw [← HD.out]
    have HK0 : Hid (hasK (delK T key ++ delK K key) key = false) := hasK_not.2 (keys_del HP.out.inv.1.nodup key)
    have HK1 : Hid (hasK (delK T key) key = false ∧ hasK (delK K key) key = false) := by have := HK0.out; rw [hasK_append, Bool.or_eq_false_iff] at this; exact this
    have HP4 : Hid (P4 w (fun _ => False) b r most 121 (delK T key) (delK K key) T K w4) := hP
    clear hP
    go_wp2_with fail
    refine (kept_p w w4 _ b r most 121 (delK T key) (delK K key) T K key HP4.out hk).mono ?_; rintro e w5 ⟨rfl, rfl⟩
    rw [HK1.out.2]
    go_wp2_with fail
    refine (drop_p w w4 _ b r most 121 (delK T key) (delK K key) T K key HP4.out (by omega) hk).mono ?_; rintro e w6 ⟨rfl, hP, _⟩
    rw [HK0.out]
    have HP6 : Hid (P4 w (fun _ => False) b r most 122 (delK T key) (delK K key) T K w6) := by rw [(touch_of_no (most := most) HK0.out).2] at hP; exact hP
    clear hP
    go_wp2_with fail
    refine (rdrop_p w w6 _ b r most 122 (delK T key) (delK K key) T K key HP6.out (by omega)).mono ?_; rintro e w7 ⟨rfl, hP, _⟩
    have HP7 : Hid (P4 w (fun _ => False) b r most 123 (delK T key) (delK K key) (delK T key) (delK K key) w7) := hP
    obtain ⟨d2, hd2⟩ : ∃ d, d = hasK (T ++ K) key := ⟨_, rfl⟩
    rw [← hd2]
    clear hP hd2
    go_wp2_with fail
    refine (order_p w w7 _ b r most 123 (delK T key) (delK K key) (delK T key) (delK K key) HP7.out (by omega)).mono ?_; rintro e w8 ⟨⟨a8, c8, rfl, ho, k8⟩, hP⟩
    have HP8 := Lib.hid hP
    obtain ⟨ks, hks⟩ : ∃ ks, ks = keysP (delK T key ++ delK K key) := ⟨_, rfl⟩
    have HKL : Hid (ks.length ≤ 1000) := by have := HP8.out.len.1; show _ ≤ _; rw [hks, keys_len, List.length_append]; omega
    rw [← hks] at ho ⊢
    have HI8 : Hid (IsK w8 a8 c8 ks) := RdS.row ho (nums_one _)
    have HKS := Lib.hid hks
    clear hP ho k8 hks
    go_wp2_with fail
    refine (rorder_p w w8 _ b r most 123 (delK T key) (delK K key) (delK T key) (delK K key) HP8.out (by omega)).mono ?_; rintro e w9 ⟨⟨a9, c9, rfl, ho, k9⟩, hP⟩
    have HP9 := Lib.hid hP
    rw [← HKS.out] at ho ⊢
    have HI9 : Hid (IsK w9 a9 c9 ks) := RdS.row ho (nums_one _)
    have HI89 : Hid (IsK w9 a8 c8 ks) := HI8.out.keep k9 fun _ _ => id
    clear hP ho k9
    go_wp2_with fail
    refine (same_any w9 a8 a9 c8 c9 ks HI89.out HI9.out (by have := HKL.out; omega)).mono ?_; rintro e w10 ⟨rfl, k10⟩
    have HP10 := Lib.hid (HP9.out.still k10)
    clear k10
    go_wp2_with fail
    refine (add_p w w10 _ b r most 123 (delK T key) (delK K key) (delK T key) (delK K key) key 3 HP10.out (by omega) hk).mono ?_; rintro e w11 ⟨rfl, hP, _⟩
    have HC : Hid (addC (delK T key) (delK K key) key 3 = 0) := by show _ = _; rw [addC, if_neg (by omega), HK1.out.1, HK1.out.2]; rfl
    rw [HC.out]
    have HF := Lib.hid hP
    clear hP
    go_wp2_with fail
    refine (kept_p w w11 _ b r most 124 _ (delK K key) (delK T key) (delK K key) key HF.out hk).mono ?_; rintro e w12 ⟨rfl, rfl⟩
    rw [HK1.out.2]
    go_wp2
    go_ret
    exact ⟨by simp, Chg.below HF.out.g⟩
end Go.Proofs.Ytjeclknahjnhoaa
