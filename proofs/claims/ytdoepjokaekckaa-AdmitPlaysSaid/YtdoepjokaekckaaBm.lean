/- The laws' helper alive. -/
import Derived.Test.YtdoepjokaekckaaBl
namespace Go.Proofs.Ytdoepjokaekckaa
set_option linter.unusedVariables false
open Go.RowKit

def t1 : Tg := (1, 6, ByteArray.empty, 1)
def t2 : Tg := (2, 6, ByteArray.empty, 2)
theorem of1 : offB 10 10 [] [] [] t1 [] = true := by decide +kernel
theorem of2 : offB 10 10 [t1] [] [] t2 [] = false := by decide +kernel
theorem of3 : offB 10 10 [t1] [] [2] t2 [] = true := by decide +kernel
theorem go1 : (goesX 10 10 [] [] t1 []).G = [] := by decide +kernel
theorem go3 : (goesX 10 10 [t1] [] t2 []).G = [t1] := by decide +kernel
theorem isK_nil (w : World) : IsK w none 0 [] := ⟨rfl, ⟨Nat.le_refl _, by unfold maxLen; omega⟩, fun _ => ⟨rfl, rfl⟩, (fun u h => by cases h), (fun j u h => by cases h), (fun x h => by cases h)⟩
set_option maxHeartbeats 2000000 in
theorem numbers_any (w : World) (a b : Option Addr) (c e : Nat) (ks ls : List Int) (h1 : IsK w a c ks) (h2 : IsK w b e ls) : Calls Try.prog 14 #[.slice a ks.length c, .slice b ls.length e] w fun x w' => x = .returned (.bool (decide (ks = ls))) ∧ Chg (fun _ => False) w w' := by
  have H1 := Lib.hid h1
  have H2 := Lib.hid h2
  have L1 : ks.length ≤ 9223372036854775807 := Nat.le_trans h1.le.1 h1.le.2
  have L2 : ls.length ≤ 9223372036854775807 := Nat.le_trans h2.le.1 h2.le.2
  clear h1 h2
  by_cases hl : ks.length = ls.length
  · have HL := Lib.hid hl
    have hi : (↑ks.length : Int) = ↑ls.length := by rw [hl]
    go_enter Try.func14, Try.ntmps14
    go_wp2_with fail
    clear hi hl
    go_loopw [13] (fun i wr => ∃ k : Nat, k ≤ ks.length ∧ i = .int .i64 (↑k : Int) ∧ Hid (ks.take k = ls.take k) ∧ Hid (Chg (fun _ => False) w wr)) (fun i _ => ks.length - (intOf i).toNat)
    case atStart => exact ⟨0, by omega, rfl, rfl, Chg.refl _ _⟩
    case round =>
      obtain ⟨k, hk, rfl, HT, HG⟩ := hrel
      by_cases hkt : k < ks.length
      · have hkl : k < ls.length := by rw [← HL.out]; exact hkt
        obtain ⟨x, hx⟩ : ∃ x, ks[k]? = some x := ⟨_, List.getElem?_eq_getElem hkt⟩
        obtain ⟨y, hy⟩ : ∃ y, ls[k]? = some y := ⟨_, List.getElem?_eq_getElem hkl⟩
        obtain ⟨g, o, rfl, k0⟩ := (H1.out.keep HG.out fun _ _ => id).at hx
        obtain ⟨g2, o2, rfl, k1⟩ := (H2.out.keep HG.out fun _ _ => id).at hy
        have HX := Lib.hid hx
        have HY := Lib.hid hy
        clear hx hy
        go_upto_region 6 with fail
        refine name_region ?_; intro W hW
        have gW : Chg (fun _ => False) wr W := by subst hW; exact (by repeat (first | with_reducible exact Chg.refl _ _ | with_reducible assumption | with_reducible refine Chg.drewN ?_ _ | with_reducible refine Chg.drew ?_ | with_reducible refine Chg.alloc ?_ _ | with_reducible refine Chg.setCell ?_ (by first | (left; rfl) | (left; left; rfl) | (left; right; rfl) | (left; right; left; rfl) | (left; right; right; rfl) | (right; exact Nat.le_refl _) | (right; simp; done) | (right; omega) | (right; simp at *; omega) | (simp at *; omega)) _ | with_reducible refine Chg.trans ?_ (by with_reducible assumption) (by intro i hi hT; first | exact hT | exact False.elim hT | omega | (simp at *; omega))))
        have f0 := (gW.cell (cell_lt k0) id _).trans k0
        have f1 := (gW.cell (cell_lt k1) id _).trans k1
        have GW := Lib.hid (HG.out.trans gW fun _ _ h => h)
        clear hW gW k0 k1
        go_quiet (fail)
        clear f0 f1
        by_cases hxy : x = y
        · have q : (x == y) = true := by simpa using hxy
          have HXY := Lib.hid hxy
          go_wp2
          go_roundw
          case rel => exact ⟨k + 1, by omega, by go_num, (by show _ = _; rw [List.take_add_one, List.take_add_one, HT.out, HX.out, HY.out, HXY.out]), GW.out.trans (show Chg (fun _ => False) W _ from (by repeat (first | with_reducible exact Chg.refl _ _ | with_reducible assumption | with_reducible refine Chg.drewN ?_ _ | with_reducible refine Chg.drew ?_ | with_reducible refine Chg.alloc ?_ _ | with_reducible refine Chg.setCell ?_ (by first | (left; rfl) | (left; left; rfl) | (left; right; rfl) | (left; right; left; rfl) | (left; right; right; rfl) | (right; exact Nat.le_refl _) | (right; simp; done) | (right; omega) | (right; simp at *; omega) | (simp at *; omega)) _ | with_reducible refine Chg.trans ?_ (by with_reducible assumption) (by intro i hi hT; first | exact hT | exact False.elim hT | omega | (simp at *; omega))))) fun _ _ h => h⟩
          case measure => simp [intOf]; omega
        · have q : (x == y) = false := by simpa using hxy
          have HN : Hid (decide (ks = ls) = false) := decN (by
            intro e
            have h1 := HX.out
            rw [e, HY.out] at h1
            injection h1 with h1
            exact hxy h1.symm)
          go_wp2
          go_ret
          exact ⟨by rw [HN.out]; rfl, GW.out.trans (show Chg (fun _ => False) W _ from (by repeat (first | with_reducible exact Chg.refl _ _ | with_reducible assumption | with_reducible refine Chg.drewN ?_ _ | with_reducible refine Chg.drew ?_ | with_reducible refine Chg.alloc ?_ _ | with_reducible refine Chg.setCell ?_ (by first | (left; rfl) | (left; left; rfl) | (left; right; rfl) | (left; right; left; rfl) | (left; right; right; rfl) | (right; exact Nat.le_refl _) | (right; simp; done) | (right; omega) | (right; simp at *; omega) | (simp at *; omega)) _ | with_reducible refine Chg.trans ?_ (by with_reducible assumption) (by intro i hi hT; first | exact hT | exact False.elim hT | omega | (simp at *; omega))))) fun _ _ h => h⟩
      · obtain rfl : k = ks.length := by omega
        have HN : Hid (decide (ks = ls) = true) := decP (by
          have h1 := HT.out
          rw [List.take_length, HL.out, List.take_length] at h1
          exact h1)
        have hlt : ¬ ks.length < ls.length := by have := HL.out; omega
        go_wp2
        go_ret
        exact ⟨by rw [HN.out]; rfl, HG.out⟩
  · have HN : Hid (decide (ks = ls) = false) := decN (fun e => hl (by rw [e]))
    have hi : ¬ (↑ks.length : Int) = ↑ls.length := by omega
    have q : ((↑ks.length : Int) == ↑ls.length) = false := by simpa using hi
    go_enter Try.func14, Try.ntmps14
    go_wp2
    go_ret
    exact ⟨by rw [HN.out]; rfl, (by repeat (first | with_reducible exact Chg.refl _ _ | with_reducible assumption | with_reducible refine Chg.drewN ?_ _ | with_reducible refine Chg.drew ?_ | with_reducible refine Chg.alloc ?_ _ | with_reducible refine Chg.setCell ?_ (by first | (left; rfl) | (left; left; rfl) | (left; right; rfl) | (left; right; left; rfl) | (left; right; right; rfl) | (right; exact Nat.le_refl _) | (right; simp; done) | (right; omega) | (right; simp at *; omega) | (simp at *; omega)) _ | with_reducible refine Chg.trans ?_ (by with_reducible assumption) (by intro i hi hT; first | exact hT | exact False.elim hT | omega | (simp at *; omega))))⟩
end Go.Proofs.Ytdoepjokaekckaa
