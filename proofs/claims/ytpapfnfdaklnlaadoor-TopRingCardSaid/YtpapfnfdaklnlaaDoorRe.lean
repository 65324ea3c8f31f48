/- The ring's search among its points. -/
import Derived.Test.YtpapfnfdaklnlaaDoorRd
namespace Go.Proofs.YtpapfnfdaklnlaaDoor
set_option linter.unusedVariables false
open Go.RowKit

set_option maxHeartbeats 1000000 in
theorem at_pt (x : Pt) (h : Int) (w : World) : Calls Tryd.prog 43 #[.agg #[.int .u64 x.1, .string x.2], .int .u64 h] w fun e w' => e = .returned (.int .i64 (cmpU x.1 h)) ∧ Below w.heap.size w w' := by
  obtain ⟨x1, x2⟩ := x
  simp only
  obtain ⟨r, hr⟩ : ∃ r, cmpU x1 h = r := ⟨_, rfl⟩
  have e1 := fun V => cmp_u x1 h V
  simp only [hr] at e1
  rw [hr]
  clear hr
  go_enter Tryd.func43, Tryd.ntmps43
  go_wp2_with (go_at_call 23; refine (e1 _).mono ?_; rintro e w' ⟨rfl, rfl⟩)
  go_ret
  exact ⟨rfl, (by repeat (first | with_reducible exact Below.refl _ _ | with_reducible assumption | with_reducible refine below_drewN ?_ _ | with_reducible refine Below.drew ?_ | with_reducible refine Below.alloc ?_ (by first | exact Nat.le_refl _ | assumption | (simp; done) | omega | (simp at *; omega)) _ | with_reducible refine Below.setCell ?_ (by first | exact Nat.le_refl _ | assumption | (simp; done) | omega | (simp at *; omega)) _ | with_reducible refine Below.trans ?_ (Below.mono (by with_reducible assumption) (by first | exact Nat.le_refl _ | assumption | (simp; done) | omega | (simp at *; omega)))))⟩
theorem pt_at {L : List Pt} {i : Nat} {x : Pt} (h : L[i]? = some x) : (flatP L)[i * 2]? = some (.int .u64 x.1) ∧ (flatP L)[i * 2 + 1]? = some (.string x.2) := by
  have hl := (List.getElem?_eq_some_iff.1 h).1
  have e : L[i]! = x := by simp [h]
  constructor
  · rw [flatP_get L _ (by omega), show i * 2 / 2 = i by omega, show i * 2 % 2 = 0 by omega, e]; rfl
  · rw [flatP_get L _ (by omega), show (i * 2 + 1) / 2 = i by omega, show (i * 2 + 1) % 2 = 1 by omega, e]; rfl
theorem cmpU_neg (a b : Int) : cmpU a b < 0 ↔ a < b := by
  unfold cmpU
  split
  · simp_all
  · split <;> simp_all

set_option maxHeartbeats 4000000 in
theorem search_pts (B g cap n : Nat) (L : List Pt) (h : Int) (w : World) (hn : L.length = n) (hsz : n < 4611686018427387904) (hr : w.ownsRow B 63 2 (.slice (some ⟨g, 0, none⟩) n cap) n (flatP L)) (hL : Asc L) :
    Calls Tryd.prog 42 #[.slice (some ⟨g, 0, none⟩) n cap, .int .u64 h, .func (.func 43) #[] #[]] w fun e w' => (∃ (k : Nat) (b : Bool), e = .returned (.tuple #[.int .i64 k, .bool b]) ∧ k ≤ n ∧ (∀ (i : Nat) x, L[i]? = some x → (i < k ↔ x.1 < h))) ∧ Below w.heap.size w w' := by
  have HR := Lib.hid hr
  have HN := Lib.hid hn
  have HA := Lib.hid hL
  have hg := (own_below hr (c := g) rfl).2
  clear hr hn hL
  go_enter Tryd.func42, Tryd.ntmps42
  go_wp2
  go_loopw [9, 10] (fun a b wr => ∃ lo hi : Nat, lo ≤ hi ∧ hi ≤ n ∧ a = .int .i64 (↑lo : Int) ∧ b = .int .i64 (↑hi : Int) ∧ Hid (∀ (i : Nat) x, L[i]? = some x → i < lo → x.1 < h) ∧ Hid (∀ (i : Nat) x, L[i]? = some x → hi ≤ i → h ≤ x.1) ∧ Hid (Below w.heap.size w wr)) (fun a b _ => (intOf b).toNat - (intOf a).toNat)
  case atStart => exact ⟨0, n, by omega, by omega, rfl, rfl, fun _ _ _ h => by omega, fun i x hx hi => by have := (List.getElem?_eq_some_iff.1 hx).1; have := HN.out; omega, Below.refl _ _⟩
  case round =>
    obtain ⟨lo, hi, h1, h2, rfl, rfl, HL, HH, HB⟩ := hrel
    by_cases hlt : lo < hi
    · obtain ⟨x, hx⟩ : ∃ x, L[(lo + hi) / 2]? = some x := ⟨_, List.getElem?_eq_getElem (by have := HN.out; omega)⟩
      have c0 := ((bcell HB.out).1 g ((lo + hi) / 2 * 2) hg).trans (own_cell HR.out (pt_at hx).1).1
      have c1 := ((bcell HB.out).1 g ((lo + hi) / 2 * 2 + 1) hg).trans (own_cell HR.out (pt_at hx).2).1
      have HX := Lib.hid hx
      clear hx
      go_wp2_with fail
      refine (at_pt x h _).mono ?_; rintro e w5 ⟨rfl, b5⟩
      have HB5 := Lib.hid (HB.out.trans (b5.mono HB.out.size))
      clear b5 c0 c1
      obtain ⟨r, hr⟩ : ∃ r, cmpU x.1 h = r := ⟨_, rfl⟩
      have hrn : r < 0 ↔ x.1 < h := by rw [← hr]; exact cmpU_neg _ _
      rw [hr]
      clear hr
      by_cases hneg : r < 0
      · have hxh := Lib.hid (hrn.1 hneg)
        clear hrn
        go_wp2_with fail
        go_roundw
        case rel =>
          refine ⟨(lo + hi) / 2 + 1, hi, by omega, h2, by go_num, rfl, ?_, HH.out, HB5.out⟩
          intro i y hy hi'
          by_cases hi2 : i = (lo + hi) / 2
          · subst hi2; have := HX.out; rw [hy] at this; cases this; exact hxh.out
          · have hi3 : i < (lo + hi) / 2 := by omega
            have hp := List.pairwise_iff_getElem.1 HA.out i ((lo + hi) / 2) (List.getElem?_eq_some_iff.1 hy).1 (List.getElem?_eq_some_iff.1 HX.out).1 hi3
            rw [(List.getElem?_eq_some_iff.1 hy).2, (List.getElem?_eq_some_iff.1 HX.out).2] at hp
            have := hxh.out
            have h6 : ¬ x.1 < y.1 := fun hh => hp (.inl hh)
            omega
        case measure => simp [intOf]; omega
      · have hxh := Lib.hid (show h ≤ x.1 by have := fun hh => hneg (hrn.2 hh); omega)
        clear hrn
        go_wp2_with fail
        go_roundw
        case rel =>
          refine ⟨lo, (lo + hi) / 2, by omega, by omega, rfl, by go_num, HL.out, ?_, HB5.out⟩
          intro i y hy hi'
          by_cases hi2 : i = (lo + hi) / 2
          · subst hi2; have := HX.out; rw [hy] at this; cases this; exact hxh.out
          · have hi3 : (lo + hi) / 2 < i := by omega
            have hp := List.pairwise_iff_getElem.1 HA.out ((lo + hi) / 2) i (List.getElem?_eq_some_iff.1 HX.out).1 (List.getElem?_eq_some_iff.1 hy).1 hi3
            rw [(List.getElem?_eq_some_iff.1 hy).2, (List.getElem?_eq_some_iff.1 HX.out).2] at hp
            have := hxh.out
            have h6 : ¬ y.1 < x.1 := fun hh => hp (.inl hh)
            omega
        case measure => simp [intOf]; omega
    · obtain rfl : lo = hi := by omega
      have fin : ∀ (i : Nat) x, L[i]? = some x → (i < lo ↔ x.1 < h) := fun i x hx => ⟨HL.out i x hx, fun hh => by
        by_cases hi' : i < lo
        · exact hi'
        · have := HH.out i x hx (by omega); omega⟩
      have FIN := Lib.hid fin
      clear fin
      by_cases hln : lo < n
      · obtain ⟨x, hx⟩ : ∃ x, L[lo]? = some x := ⟨_, List.getElem?_eq_getElem (by have := HN.out; omega)⟩
        have c0 := ((bcell HB.out).1 g (lo * 2) hg).trans (own_cell HR.out (pt_at hx).1).1
        have c1 := ((bcell HB.out).1 g (lo * 2 + 1) hg).trans (own_cell HR.out (pt_at hx).2).1
        clear hx
        go_wp2_with fail
        refine (at_pt x h _).mono ?_; rintro e w5 ⟨rfl, b5⟩
        have HB5 := Lib.hid (HB.out.trans (b5.mono HB.out.size))
        clear b5 c0 c1
        obtain ⟨r, hr⟩ : ∃ r, cmpU x.1 h = r := ⟨_, rfl⟩
        rw [hr]
        clear hr
        go_wp2
        go_ret2
        exact ⟨⟨lo, _, rfl, h2, FIN.out⟩, HB5.out⟩
      · go_wp2
        go_ret2
        exact ⟨⟨lo, _, rfl, h2, FIN.out⟩, HB.out⟩
end Go.Proofs.YtpapfnfdaklnlaaDoor
