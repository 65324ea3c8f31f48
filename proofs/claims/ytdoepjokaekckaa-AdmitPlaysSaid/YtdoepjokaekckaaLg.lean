/- The reference's list: Order, Has; Same. (Printed by genorder.py.) -/
import Derived.Test.YtdoepjokaekckaaLn
namespace Go.Proofs.Ytdoepjokaekckaa
set_option linter.unusedVariables false
open Go.RowKit

theorem keys_len (l : List Pt) : (keysP l).length = l.length := by simp [keysP]
theorem keys_take {l : List Pt} {k : Nat} {t : Pt} (h : l[k]? = some t) : keysP (l.take (k + 1)) = keysP (l.take k) ++ [t.1] := by rw [take_step h, keysP_append]; rfl
set_option maxHeartbeats 2000000 in
theorem rorder_any (w : World) (r : Nat) (most : Int) (T K : List Pt) (a1 : Option Addr) (c1 : Nat) (a2 : Option Addr) (c2 : Nat) (h : RfR w r most T K a1 c1 a2 c2) (hl : T.length + K.length ≤ 1000) :
    Calls Try.prog 55 #[.pointer (some ⟨r, 0, none⟩)] w (OrdPost w (keysP (T ++ K))) := by
  obtain ⟨ie, hie, ez0, ez1, ez2⟩ := info_parts infoI64
  have HH := Lib.hid h
  have lr : r < w.heap.size := cell_lt h.m0
  clear h
  go_enter Try.func55, Try.ntmps55
  go_wp2_with fail
  go_loopw [3, 4] (fun s i wr => ∃ (k : Nat) (a : Option Addr) (c : Nat), k ≤ T.length ∧ i = .int .i64 (↑k : Int) ∧ s = .slice a k c ∧ Hid (wr.ownsRow w.heap.size 2 1 (.slice a (keysP (T.take k)).length c) (keysP (T.take k)).length (nums (keysP (T.take k)))) ∧ Hid (Chg (fun _ => False) w wr)) (fun _ i _ => T.length - (intOf i).toNat)
  case atStart => exact ⟨0, some ⟨w.heap.size, 0, none⟩, 0, by omega, rfl, rfl, row_empty rfl (Nat.le_refl _) (by unfold maxLen; omega), by show Chg _ _ _; exact (by repeat (first | with_reducible exact Chg.refl _ _ | with_reducible assumption | with_reducible refine Chg.drewN ?_ _ | with_reducible refine Chg.drew ?_ | with_reducible refine Chg.alloc ?_ _ | with_reducible refine Chg.setCell ?_ (by first | (left; rfl) | (left; left; rfl) | (left; right; rfl) | (left; right; left; rfl) | (left; right; right; rfl) | (right; exact Nat.le_refl _) | (right; simp; done) | (right; omega) | (right; simp at *; omega) | (simp at *; omega)) _ | with_reducible refine Chg.trans ?_ (by with_reducible assumption) (by intro i hi hT; first | exact hT | exact False.elim hT | omega | (simp at *; omega))))⟩
  case round =>
    obtain ⟨k, a, c, hk, rfl, rfl, HO, HG⟩ := hrel
    have m1 := (HH.out.still HG.out).m1
    by_cases hkt : k < T.length
    · obtain ⟨⟨x, n⟩, hx⟩ : ∃ t, T[k]? = some t := ⟨_, List.getElem?_eq_getElem hkt⟩
      obtain ⟨g, o, rfl, k0, k1⟩ := (HH.out.still HG.out).t.at hx
      simp only at k0
      have HX := Lib.hid hx
      have hkl : (keysP (T.take k)).length = k := by rw [keys_len, List.length_take]; omega
      have HO2 := HO
      rw [hkl] at HO2
      have HKL := Lib.hid hkl
      have lg : g < wr.heap.size := cell_lt k0
      have lr2 : r < wr.heap.size := cell_lt m1
      have gs := HG.out.size
      clear hx hkl k1
      go_wp2_with (at_builtin; go_loud (refine list_owned rfl _ _ 35 rfl w.heap.size 2 ie _ 1 8 Try.underlying35 hie ez0 ez1 ez2 rfl (by decide) rfl rfl (HO2.out.alloc _) (nums_one _) (rd_one (u := .int .i64 x) (by go_simp) rfl) (by unfold maxLen; omega) (by omega) (by simp; omega) ?_; intro a3 c3 w3 ho3 hg3 hone3))
      go_roundw
      case rel =>
        have hst := nums_step HO.out HG.out (by rw [HKL.out]; exact hg3) (by rw [HKL.out]; exact ho3)
        rw [← keys_take HX.out] at hst
        exact ⟨k + 1, a3, c3, by omega, by go_num, rfl, hst.1, hst.2⟩
      case measure => simp [intOf]; omega
    · obtain rfl : k = T.length := by omega
      go_wp2_with fail
      go_loopw [3, 5] (fun s i wr => ∃ (k : Nat) (a : Option Addr) (c : Nat), k ≤ K.length ∧ i = .int .i64 (↑k : Int) ∧ s = .slice a (T.length + k) c ∧ Hid (wr.ownsRow w.heap.size 2 1 (.slice a (keysP (T ++ K.take k)).length c) (keysP (T ++ K.take k)).length (nums (keysP (T ++ K.take k)))) ∧ Hid (Chg (fun _ => False) w wr)) (fun _ i _ => K.length - (intOf i).toNat)
      case atStart => exact ⟨0, a, c, by omega, rfl, rfl, by have := HO.out; rw [List.take_length] at this; simpa using Lib.hid this, HG⟩
      case round =>
        obtain ⟨k, a, c, hk, rfl, rfl, HO, HG⟩ := hrel
        have m2 := (HH.out.still HG.out).m2
        by_cases hkt : k < K.length
        · obtain ⟨⟨x, n⟩, hx⟩ : ∃ t, K[k]? = some t := ⟨_, List.getElem?_eq_getElem hkt⟩
          obtain ⟨g, o, rfl, k0, k1⟩ := (HH.out.still HG.out).k.at hx
          simp only at k0
          have HX := Lib.hid hx
          have hkl : (keysP (T ++ K.take k)).length = T.length + k := by rw [keys_len, List.length_append, List.length_take]; omega
          have HO2 := HO
          rw [hkl] at HO2
          have HKL := Lib.hid hkl
          have lg : g < wr.heap.size := cell_lt k0
          have lr2 : r < wr.heap.size := cell_lt m2
          have gs := HG.out.size
          clear hx hkl k1
          go_wp2_with (at_builtin; go_loud (refine list_owned rfl _ _ 35 rfl w.heap.size 2 ie _ 1 8 Try.underlying35 hie ez0 ez1 ez2 rfl (by decide) rfl rfl (HO2.out.alloc _) (nums_one _) (rd_one (u := .int .i64 x) (by go_simp) rfl) (by unfold maxLen; omega) (by omega) (by simp; omega) ?_; intro a3 c3 w3 ho3 hg3 hone3))
          go_roundw
          case rel =>
            have hst := nums_step HO.out HG.out (by rw [HKL.out]; exact hg3) (by rw [HKL.out]; exact ho3)
            have e : keysP (T ++ K.take k) ++ [x] = keysP (T ++ K.take (k + 1)) := by rw [keysP_append, keysP_append, keys_take HX.out, List.append_assoc]
            rw [e] at hst
            exact ⟨k + 1, a3, c3, by omega, by go_num, rfl, hst.1, hst.2⟩
          case measure => simp [intOf]; omega
        · obtain rfl : k = K.length := by omega
          have HKL : Hid ((keysP (T ++ K)).length = T.length + K.length) := by show _ = _; simp [keysP]
          go_wp2
          go_ret
          have h2 := HO.out
          rw [List.take_length] at h2
          exact ⟨a, c, by rw [HKL.out]; rfl, h2, HG.out⟩

end Go.Proofs.Ytdoepjokaekckaa
