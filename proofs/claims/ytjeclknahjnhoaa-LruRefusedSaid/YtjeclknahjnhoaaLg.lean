/- The reference's list: Order, Has; Same. (Printed by genorder.py.) -/
import Derived.Test.YtjeclknahjnhoaaLn
namespace Go.Proofs.Ytjeclknahjnhoaa
set_option linter.unusedVariables false
open Go.RowKit

theorem keys_len (l : List Pt) : (keysP l).length = l.length := by simp [keysP]
theorem keys_take {l : List Pt} {k : Nat} {t : Pt} (h : l[k]? = some t) : keysP (l.take (k + 1)) = keysP (l.take k) ++ [t.1] := by rw [take_step h, keysP_append]; rfl
set_option maxHeartbeats 1000000 in
theorem same_any (w : World) (a1 a2 : Option Addr) (c1 c2 : Nat) (ks : List Int) (h1 : IsK w a1 c1 ks) (h2 : IsK w a2 c2 ks) (hl : ks.length ≤ 100000) :
    Calls Try.prog 14 #[.slice a1 ks.length c1, .slice a2 ks.length c2] w fun e w' => e = .returned (.bool true) ∧ Chg (fun _ => False) w w' := by
  have H1 := Lib.hid h1
  have H2 := Lib.hid h2
  clear h1 h2
  go_enter Try.func14, Try.ntmps14
  go_wp2_with fail
  go_loopw [5] (fun i wr => ∃ k : Nat, k ≤ ks.length ∧ i = .int .i64 (↑k : Int) ∧ Hid (Chg (fun _ => False) w wr)) (fun i _ => ks.length - (intOf i).toNat)
  case atStart => exact ⟨0, by omega, rfl, Chg.refl _ _⟩
  case round =>
    obtain ⟨k, hk, rfl, HG⟩ := hrel
    by_cases hkt : k < ks.length
    · obtain ⟨f, hf⟩ : ∃ f, ks[k]? = some f := ⟨_, List.getElem?_eq_getElem hkt⟩
      obtain ⟨g1, o1, rfl, k0⟩ := (H1.out.keep HG.out (fun _ _ h => h)).at hf
      obtain ⟨g2, o2, rfl, m0⟩ := (H2.out.keep HG.out (fun _ _ h => h)).at hf
      clear hf
      go_wp2_with fail
      go_quiet (fail)
      go_wp2
      go_roundw
      case rel => exact ⟨k + 1, by omega, by go_num, HG.out.trans (T := fun _ => False) (by repeat (first | with_reducible exact Chg.refl _ _ | with_reducible assumption | with_reducible refine Chg.drewN ?_ _ | with_reducible refine Chg.drew ?_ | with_reducible refine Chg.alloc ?_ _ | with_reducible refine Chg.setCell ?_ (by first | (left; rfl) | (left; left; rfl) | (left; right; rfl) | (left; right; left; rfl) | (left; right; right; rfl) | (right; exact Nat.le_refl _) | (right; simp; done) | (right; omega) | (right; simp at *; omega) | (simp at *; omega)) _ | with_reducible refine Chg.trans ?_ (by with_reducible assumption) (by intro i hi hT; first | exact hT | exact False.elim hT | omega | (simp at *; omega)))) (fun _ _ h => h)⟩
      case measure => simp [intOf]; omega
    · obtain rfl : k = ks.length := by omega
      go_wp2
      go_ret
      exact ⟨rfl, HG.out⟩

set_option maxHeartbeats 2000000 in
theorem rorder_any (w : World) (r : Nat) (most : Int) (T K : List Pt) (a1 : Option Addr) (c1 : Nat) (a2 : Option Addr) (c2 : Nat) (h : RfR w r most T K a1 c1 a2 c2) (hl : T.length + K.length ≤ 1000) :
    Calls Try.prog 16 #[.pointer (some ⟨r, 0, none⟩)] w (OrdPost w (keysP (T ++ K))) := by
  obtain ⟨ie, hie, ez0, ez1, ez2⟩ := info_parts infoI64
  have HH := Lib.hid h
  have lr : r < w.heap.size := cell_lt h.m0
  clear h
  go_enter Try.func16, Try.ntmps16
  go_wp2_with fail
  go_loopw [3, 4] (fun s i wr => ∃ (k : Nat) (a : Option Addr) (c : Nat), k ≤ T.length ∧ i = .int .i64 (↑k : Int) ∧ s = .slice a k c ∧ Hid (wr.ownsRow w.heap.size 2 1 (.slice a (keysP (T.take k)).length c) (keysP (T.take k)).length (nums (keysP (T.take k)))) ∧ Hid (Chg (fun _ => False) w wr)) (fun _ i _ => T.length - (intOf i).toNat)
  case atStart => exact ⟨0, some ⟨w.heap.size, 0, none⟩, 0, by omega, rfl, rfl, row_empty rfl (Nat.le_refl _) (by unfold maxLen; omega), by show Chg _ _ _; exact (by repeat (first | with_reducible exact Chg.refl _ _ | with_reducible assumption | with_reducible refine Chg.drewN ?_ _ | with_reducible refine Chg.drew ?_ | with_reducible refine Chg.alloc ?_ _ | with_reducible refine Chg.setCell ?_ (by first | (left; rfl) | (left; left; rfl) | (left; right; rfl) | (left; right; left; rfl) | (left; right; right; rfl) | (right; exact Nat.le_refl _) | (right; simp; done) | (right; omega) | (right; simp at *; omega) | (simp at *; omega)) _ | with_reducible refine Chg.trans ?_ (by with_reducible assumption) (by intro i hi hT; first | exact hT | exact False.elim hT | omega | (simp at *; omega))))⟩
  case round =>
    obtain ⟨k, a, c, hk, rfl, rfl, HO, HG⟩ := hrel
    have m1 := (HH.out.still HG.out).m1
    by_cases hkt : k < T.length
    · obtain ⟨⟨x, n⟩, hx⟩ : ∃ t, T[k]? = some t := ⟨_, List.getElem?_eq_getElem hkt⟩
      obtain ⟨g, o, rfl, k0, k1⟩ := (HH.out.still HG.out).t.at hx
      simp only at k0
      have HX := Lib.hid hx
      have hkl : (keysP (T.take k)).length = k := by rw [keys_len, List.length_take]; omega
      have HO2 := HO
      rw [hkl] at HO2
      have HKL := Lib.hid hkl
      have lg : g < wr.heap.size := cell_lt k0
      have lr2 : r < wr.heap.size := cell_lt m1
      have gs := HG.out.size
      clear hx hkl k1
      go_wp2_with (at_builtin; go_loud (refine list_owned rfl _ _ 37 rfl w.heap.size 2 ie _ 1 8 Try.underlying37 hie ez0 ez1 ez2 rfl (by decide) rfl rfl (HO2.out.alloc _) (nums_one _) (rd_one (u := .int .i64 x) (by go_simp) rfl) (by unfold maxLen; omega) (by omega) (by simp; omega) ?_; intro a3 c3 w3 ho3 hg3 hone3))
      go_roundw
      case rel =>
        have hst := nums_step HO.out HG.out (by rw [HKL.out]; exact hg3) (by rw [HKL.out]; exact ho3)
        rw [← keys_take HX.out] at hst
        exact ⟨k + 1, a3, c3, by omega, by go_num, rfl, hst.1, hst.2⟩
      case measure => simp [intOf]; omega
    · obtain rfl : k = T.length := by omega
      go_wp2_with fail
      go_loopw [3, 5] (fun s i wr => ∃ (k : Nat) (a : Option Addr) (c : Nat), k ≤ K.length ∧ i = .int .i64 (↑k : Int) ∧ s = .slice a (T.length + k) c ∧ Hid (wr.ownsRow w.heap.size 2 1 (.slice a (keysP (T ++ K.take k)).length c) (keysP (T ++ K.take k)).length (nums (keysP (T ++ K.take k)))) ∧ Hid (Chg (fun _ => False) w wr)) (fun _ i _ => K.length - (intOf i).toNat)
      case atStart => exact ⟨0, a, c, by omega, rfl, rfl, by have := HO.out; rw [List.take_length] at this; simpa using Lib.hid this, HG⟩
      case round =>
        obtain ⟨k, a, c, hk, rfl, rfl, HO, HG⟩ := hrel
        have m2 := (HH.out.still HG.out).m2
        by_cases hkt : k < K.length
        · obtain ⟨⟨x, n⟩, hx⟩ : ∃ t, K[k]? = some t := ⟨_, List.getElem?_eq_getElem hkt⟩
          obtain ⟨g, o, rfl, k0, k1⟩ := (HH.out.still HG.out).k.at hx
          simp only at k0
          have HX := Lib.hid hx
          have hkl : (keysP (T ++ K.take k)).length = T.length + k := by rw [keys_len, List.length_append, List.length_take]; omega
          have HO2 := HO
          rw [hkl] at HO2
          have HKL := Lib.hid hkl
          have lg : g < wr.heap.size := cell_lt k0
          have lr2 : r < wr.heap.size := cell_lt m2
          have gs := HG.out.size
          clear hx hkl k1
          go_wp2_with (at_builtin; go_loud (refine list_owned rfl _ _ 37 rfl w.heap.size 2 ie _ 1 8 Try.underlying37 hie ez0 ez1 ez2 rfl (by decide) rfl rfl (HO2.out.alloc _) (nums_one _) (rd_one (u := .int .i64 x) (by go_simp) rfl) (by unfold maxLen; omega) (by omega) (by simp; omega) ?_; intro a3 c3 w3 ho3 hg3 hone3))
          go_roundw
          case rel =>
            have hst := nums_step HO.out HG.out (by rw [HKL.out]; exact hg3) (by rw [HKL.out]; exact ho3)
            have e : keysP (T ++ K.take k) ++ [x] = keysP (T ++ K.take (k + 1)) := by rw [keysP_append, keysP_append, keys_take HX.out, List.append_assoc]
            rw [e] at hst
            exact ⟨k + 1, a3, c3, by omega, by go_num, rfl, hst.1, hst.2⟩
          case measure => simp [intOf]; omega
        · obtain rfl : k = K.length := by omega
          have HKL : Hid ((keysP (T ++ K)).length = T.length + K.length) := by show _ = _; simp [keysP]
          go_wp2
          go_ret
          have h2 := HO.out
          rw [List.take_length] at h2
          exact ⟨a, c, by rw [HKL.out]; rfl, h2, HG.out⟩

set_option maxHeartbeats 2000000 in
set_option maxRecDepth 100000 in
theorem rhas_any (w : World) (r : Nat) (most : Int) (T K : List Pt) (a1 : Option Addr) (c1 : Nat) (a2 : Option Addr) (c2 : Nat) (x : Int) (h : RfR w r most T K a1 c1 a2 c2) (hl : T.length + K.length ≤ 1000) :
    Calls Try.prog 20 #[.pointer (some ⟨r, 0, none⟩), .int .i64 x] w fun e w' => e = .returned (.tuple #[.int .i64 (atK (T ++ K) x), .bool (hasK (T ++ K) x)]) ∧ Chg (fun _ => False) w w' := by
  obtain ⟨ie, hie, ez0, ez1, ez2⟩ := info_parts infoThing
  have m1 := h.m1
  have m2 := h.m2
  have lr : r < w.heap.size := cell_lt m1
  have H := Lib.hid h
  clear h
  obtain ⟨U, hU⟩ : ∃ U, U = T ++ K := ⟨_, rfl⟩
  rw [← hU]
  have hUl : U.length ≤ 1000 := by rw [hU]; simp; omega
  have HUL : Hid (T.length + K.length = U.length) := by show _ = _; rw [hU]; simp
  have HU := Lib.hid hU
  clear hU
  cases hh : hasK U x with
  | true =>
    obtain ⟨A, n, B, hA, hA2⟩ := hasK_split hh
    have HF : Hid (findI U x = A.length) := by rw [hA]; exact findI_yes hA2
    have HAT : Hid (atK U x = n) := by rw [hA]; exact atK_split (t := (x, n)) hA2
    have HAU : Hid (U[A.length]? = some (x, n)) := by show _ = _; rw [hA]; simp
    have hAl : A.length < U.length := by rw [hA]; simp
    have hAl2 : A.length ≤ 1000 := by omega
    rw [HAT.out]
    clear hh hA hA2
    go_enter Try.func20, Try.ntmps20
    go_wp2_with fail
    go_region_law (first
      | (refine step_owned (by rfl) _ _ 30 (by rfl) w.heap.size 50 ie _ 2 16 Try.underlying30 hie ez0 ez1 ez2 rfl (by decide) (by rfl) (by rfl) (by first | exact row_empty (by simp) (by simp) (by unfold maxLen; omega) | exact own_drew (row_empty (by simp) (by simp) (by unfold maxLen; omega))) (by simp) (RdS.block H.out.t (S := fun _ => False) (by repeat (first | with_reducible exact Chg.refl _ _ | with_reducible assumption | with_reducible refine Chg.drewN ?_ _ | with_reducible refine Chg.drew ?_ | with_reducible refine Chg.alloc ?_ _ | with_reducible refine Chg.setCell ?_ (by first | (left; rfl) | (left; left; rfl) | (left; right; rfl) | (left; right; left; rfl) | (left; right; right; rfl) | (right; exact Nat.le_refl _) | (right; simp; done) | (right; omega) | (right; simp at *; omega) | (simp at *; omega)) _ | with_reducible refine Chg.trans ?_ (by with_reducible assumption) (by intro i hi hT; first | exact hT | exact False.elim hT | omega | (simp at *; omega)))) (fun _ _ h => h)) (by unfold maxLen; omega) (by omega) (by simp) ?_; intro b1 d1 w1 ho1 hg1 hone1; rw [Nat.zero_add, List.nil_append] at ho1; rw [List.nil_append] at hone1; have s1 := hg1.size; simp at s1; have j1 : Chg (fun _ => False) w w1 := Chg.grown (by repeat (first | with_reducible exact Chg.refl _ _ | with_reducible assumption | with_reducible refine Chg.drewN ?_ _ | with_reducible refine Chg.drew ?_ | with_reducible refine Chg.alloc ?_ _ | with_reducible refine Chg.setCell ?_ (by first | (left; rfl) | (left; left; rfl) | (left; right; rfl) | (left; right; left; rfl) | (left; right; right; rfl) | (right; exact Nat.le_refl _) | (right; simp; done) | (right; omega) | (right; simp at *; omega) | (simp at *; omega)) _ | with_reducible refine Chg.trans ?_ (by with_reducible assumption) (by intro i hi hT; first | exact hT | exact False.elim hT | omega | (simp at *; omega)))) hg1 (fun k hk => .inr (by simp [Value.ownBlock] at hk; omega)); have e2 := (j1.cell lr id 2).trans m2)
      | (refine step_owned (by rfl) _ _ 30 (by rfl) w.heap.size 50 ie _ 2 16 Try.underlying30 hie ez0 ez1 ez2 rfl (by decide) (by rfl) (by rfl) ho1 hone1 (RdS.block H.out.k (S := fun _ => False) j1 (fun _ _ h => h)) (by unfold maxLen; omega) (by omega) (by omega) ?_; intro b2 d2 w2 ho2 hg2 hone2; have j2 : Chg (fun _ => False) w w2 := Chg.grown j1 hg2 (fun k hk => .inr (own_below ho1 hk).1); have i2 : Hid (IsP w2 b2 d2 U) := (by rw [← flat_append, ← HU.out, HUL.out] at ho2; exact RdS.row ho2 (flat_one _)); have HJ := Lib.hid j2; clear ho2 hg2 hone2 j2; rw [HUL.out]))
    all_goals go_wp2_with fail
    all_goals
      refine (find_any w2 b2 d2 U x i2.out (by omega)).mono ?_
      rintro e w' ⟨rfl, rfl⟩
      rw [HF.out]
      obtain ⟨g, o, hg, k0, k1⟩ := i2.out.at HAU.out
      obtain rfl := hg
      simp only at k0 k1
    all_goals go_wp2
    all_goals go_ret2
    all_goals exact ⟨rfl, HJ.out⟩
  | false =>
    have HF : Hid (findI U x = -1) := findI_no hh
    have HAT : Hid (atK U x = 0) := atK_none hh
    rw [HAT.out]
    clear hh
    go_enter Try.func20, Try.ntmps20
    go_wp2_with fail
    go_region_law (first
      | (refine step_owned (by rfl) _ _ 30 (by rfl) w.heap.size 50 ie _ 2 16 Try.underlying30 hie ez0 ez1 ez2 rfl (by decide) (by rfl) (by rfl) (by first | exact row_empty (by simp) (by simp) (by unfold maxLen; omega) | exact own_drew (row_empty (by simp) (by simp) (by unfold maxLen; omega))) (by simp) (RdS.block H.out.t (S := fun _ => False) (by repeat (first | with_reducible exact Chg.refl _ _ | with_reducible assumption | with_reducible refine Chg.drewN ?_ _ | with_reducible refine Chg.drew ?_ | with_reducible refine Chg.alloc ?_ _ | with_reducible refine Chg.setCell ?_ (by first | (left; rfl) | (left; left; rfl) | (left; right; rfl) | (left; right; left; rfl) | (left; right; right; rfl) | (right; exact Nat.le_refl _) | (right; simp; done) | (right; omega) | (right; simp at *; omega) | (simp at *; omega)) _ | with_reducible refine Chg.trans ?_ (by with_reducible assumption) (by intro i hi hT; first | exact hT | exact False.elim hT | omega | (simp at *; omega)))) (fun _ _ h => h)) (by unfold maxLen; omega) (by omega) (by simp) ?_; intro b1 d1 w1 ho1 hg1 hone1; rw [Nat.zero_add, List.nil_append] at ho1; rw [List.nil_append] at hone1; have s1 := hg1.size; simp at s1; have j1 : Chg (fun _ => False) w w1 := Chg.grown (by repeat (first | with_reducible exact Chg.refl _ _ | with_reducible assumption | with_reducible refine Chg.drewN ?_ _ | with_reducible refine Chg.drew ?_ | with_reducible refine Chg.alloc ?_ _ | with_reducible refine Chg.setCell ?_ (by first | (left; rfl) | (left; left; rfl) | (left; right; rfl) | (left; right; left; rfl) | (left; right; right; rfl) | (right; exact Nat.le_refl _) | (right; simp; done) | (right; omega) | (right; simp at *; omega) | (simp at *; omega)) _ | with_reducible refine Chg.trans ?_ (by with_reducible assumption) (by intro i hi hT; first | exact hT | exact False.elim hT | omega | (simp at *; omega)))) hg1 (fun k hk => .inr (by simp [Value.ownBlock] at hk; omega)); have e2 := (j1.cell lr id 2).trans m2)
      | (refine step_owned (by rfl) _ _ 30 (by rfl) w.heap.size 50 ie _ 2 16 Try.underlying30 hie ez0 ez1 ez2 rfl (by decide) (by rfl) (by rfl) ho1 hone1 (RdS.block H.out.k (S := fun _ => False) j1 (fun _ _ h => h)) (by unfold maxLen; omega) (by omega) (by omega) ?_; intro b2 d2 w2 ho2 hg2 hone2; have j2 : Chg (fun _ => False) w w2 := Chg.grown j1 hg2 (fun k hk => .inr (own_below ho1 hk).1); have i2 : Hid (IsP w2 b2 d2 U) := (by rw [← flat_append, ← HU.out, HUL.out] at ho2; exact RdS.row ho2 (flat_one _)); have HJ := Lib.hid j2; clear ho2 hg2 hone2 j2; rw [HUL.out]))
    all_goals go_wp2_with fail
    all_goals
      refine (find_any w2 b2 d2 U x i2.out (by omega)).mono ?_
      rintro e w' ⟨rfl, rfl⟩
      rw [HF.out]
    all_goals go_wp2
    all_goals go_ret2
    all_goals exact ⟨rfl, HJ.out⟩
end Go.Proofs.Ytjeclknahjnhoaa
