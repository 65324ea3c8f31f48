/- slices.DeleteFunc at a ring's points, in a row of the call's own: the points of other names stay, in their order. -/
import Derived.Test.YtpapfnfdaklnlaaDoorRj
import Derived.Deep.CutBlock
namespace Go.Proofs.YtpapfnfdaklnlaaDoor
set_option linter.unusedVariables false
open Go.RowKit

set_option maxHeartbeats 8000000 in
theorem delete_pts (B g cap n : Nat) (L : List Pt) (b : Nat) (m : ByteArray) (w : World) (hn : L.length = n) (hsz : n < 4611686018427387904) (hr : w.ownsRow B 63 2 (.slice (some ⟨g, 0, none⟩) n cap) n (flatP L)) (hm : w.cell? ⟨b, 0, none⟩ = some (.string m)) (hbg : b ≠ g) :
    Calls Tryd.prog 26 #[.slice (some ⟨g, 0, none⟩) n cap, .func (.func 27) #[] #[.pointer (some ⟨b, 0, none⟩)]] w fun e w' => (∃ n' : Nat, e = .returned (.slice (some ⟨g, 0, none⟩) n' cap) ∧ n' ≤ n ∧ w'.ownsRow B 63 2 (.slice (some ⟨g, 0, none⟩) n' cap) n' (flatP (L.filter (keepP m)))) ∧ Chg (fun k => k = g) w w' := by
  have HR := Lib.hid hr
  have HN := Lib.hid hn
  have hg := (own_below hr (c := g) rfl).2
  have hb := cell_lt hm
  have hcap : n ≤ cap := by obtain ⟨_, _, hv, h1, _⟩ := own_form hr; cases hv; exact h1
  have HM := Lib.hid hm
  clear hr hn hm
  go_enter Tryd.func26, Tryd.ntmps26
  go_wp2_with fail
  refine (index_pts B g cap n L b m _ HN.out hsz HR.out HM.out).mono ?_
  rintro e w1 ⟨⟨k, rfl, hk, h1, h2⟩ | ⟨rfl, h1⟩, b1⟩
  · obtain ⟨x, hx⟩ : ∃ x, L[k]? = some x := ⟨_, List.getElem?_eq_getElem (by have := HN.out; omega)⟩
    have hD : Del L L m k (k + 1) := Del.first hx (by have := h2 x hx; rw [eq_bytes] at this; simpa using this) fun i y hy hi => by have := h1 i y hy hi; rw [eq_bytes] at this; simpa using this
    have HD := Lib.hid hD
    have HB := Lib.hid (Chg.ofBelow b1 (S := fun k => k = g))
    have HO := Lib.hid (own_chg HR.out (Chg.ofBelow b1 (S := fun _ => False)) fun _ _ _ _ h => h)
    have hw1 := b1.size
    clear h1 h2 hx hD b1
    have hkm : ((k : Int) == -1) = false := by simp
    go_wp2
    clear hkm
    go_loopw [5, 6] (fun a c wr => ∃ (i j : Nat) (M : List Pt), i < j ∧ j ≤ n ∧ a = .int .i64 (↑i : Int) ∧ c = .int .i64 (↑j : Int) ∧ Hid (Del L M m i j) ∧ Hid (wr.ownsRow B 63 2 (.slice (some ⟨g, 0, none⟩) n cap) n (flatP M)) ∧ Hid (Chg (fun k => k = g) w wr)) (fun _ c _ => n - (intOf c).toNat)
    case atStart => exact ⟨k, k + 1, L, by omega, by omega, rfl, by go_num, HD.out, HO.out, HB.out⟩
    case round =>
      obtain ⟨i, j, M, hij, hjn, rfl, rfl, HD, HO, HC⟩ := hrel
      by_cases hlt : j < n
      · obtain ⟨x, hx⟩ : ∃ x, L[j]? = some x := ⟨_, List.getElem?_eq_getElem (by have := HN.out; omega)⟩
        have hMx : M[j]? = some x := by rw [HD.out.at]; exact hx
        have hMi : i < M.length := by rw [HD.out.len]; have := HN.out; omega
        have c0 := (own_cell HO.out (pt_at hMx).1).1
        have c1 := (own_cell HO.out (pt_at hMx).2).1
        have hgr := (own_cell HO.out (pt_at hMx).1).2.2.2
        have hwr := HC.out.size
        have HX := Lib.hid hx
        clear hx hMx
        go_upto_region 8 with fail
        obtain ⟨w2, hw2⟩ : ∃ w2, w2 = wr.alloc (Obj.cells #[Value.int IntKind.u64 x.1, Value.string x.2] 63) := ⟨_, rfl⟩
        have q0 : w2.cell? ⟨wr.heap.size, 0, none⟩ = some (.int .u64 x.1) := by subst hw2; go_simp
        have q1 : w2.cell? ⟨wr.heap.size, 1, none⟩ = some (.string x.2) := by subst hw2; go_simp
        have k2 : Chg (fun _ => False) wr w2 := by subst hw2; exact (by repeat (first | with_reducible exact Chg.refl _ _ | with_reducible assumption | with_reducible refine Chg.drewN ?_ _ | with_reducible refine Chg.drew ?_ | with_reducible refine Chg.alloc ?_ _ | with_reducible refine Chg.setCell ?_ (by first | (left; rfl) | (left; left; rfl) | (left; right; rfl) | (left; right; left; rfl) | (left; right; right; rfl) | (right; exact Nat.le_refl _) | (right; simp; done) | (right; omega) | (right; simp at *; omega) | (simp at *; omega)) _ | with_reducible refine Chg.trans ?_ (by with_reducible assumption) (by intro i hi hT; first | exact hT | exact False.elim hT | omega | (simp at *; omega))))
        have hz2 : wr.heap.size < w2.heap.size := by subst hw2; simp
        rw [← hw2]
        clear hw2 c0 c1
        have m2 : w2.cell? ⟨b, 0, none⟩ = some (.string m) := (k2.cell (Nat.lt_of_lt_of_le hb hwr) id 0).trans ((HC.out.cell hb hbg 0).trans HM.out)
        go_wp2_with fail
        refine (del_pt x b m _ m2).mono ?_; rintro e w5 ⟨rfl, b5⟩
        have k5 := k2.trans (Chg.ofBelow b5 (S := fun _ => False)) fun _ _ h => h
        have p0 := ((bcell b5).1 wr.heap.size 0 hz2).trans q0
        have p1 := ((bcell b5).1 wr.heap.size 1 hz2).trans q1
        have HO5 := Lib.hid (own_chg HO.out k5 fun _ _ _ _ h => h)
        have HC5 := Lib.hid (HC.out.trans k5 fun _ _ h => h.elim)
        have hz5 : wr.heap.size < w5.heap.size := Nat.lt_of_lt_of_le hz2 b5.size
        clear q0 q1 m2 k5 k2 b5 hz2
        rw [eq_bytes]
        by_cases hxm : x.2 = m
        · have HQ := Lib.hid hxm
          have hd : decide (x.2 = m) = true := by simpa using hxm
          rw [hd]
          clear hd hxm
          go_wp2_with fail
          go_roundw
          case rel =>
            exact ⟨i, j + 1, M, by omega, by omega, rfl, by go_num, HD.out.drop HX.out HQ.out, HO5.out, HC5.out⟩
          case measure => simp [intOf]; omega
        · have HQ := Lib.hid hxm
          have hd : decide (x.2 = m) = false := by simpa using hxm
          rw [hd]
          clear hd hxm
          obtain ⟨y, hy⟩ : ∃ y, M[i]? = some y := ⟨_, List.getElem?_eq_getElem hMi⟩
          have d0 := (own_cell HO5.out (pt_at hy).1).1
          have d1 := (own_cell HO5.out (pt_at hy).2).1
          have f0 := (own_cell HO5.out (pt_at hy).1).2.1
          have HY := Lib.hid hy
          clear hy
          go_wp2_with fail
          go_roundw
          case rel =>
            have hl : (flatP M).length = M.length * 2 := flatP_len M
            have o1 := own_put (own_put HO5.out (j := i * 2) (by omega) (.int .u64 x.1)) (j := i * 2 + 1) (by rw [List.length_set]; omega) (.string x.2)
            rw [flatP_set hMi] at o1
            exact ⟨i + 1, j + 1, M.set i x, by omega, by omega, by go_num, by go_num, HD.out.keep HX.out HQ.out, o1, Chg.setCell (p := ⟨g, i * 2 + 1, none⟩) (Chg.setCell (p := ⟨g, i * 2, none⟩) HC5.out (.inl rfl) _) (.inl rfl) _⟩
          case measure => simp [intOf]; omega
      · obtain rfl : j = n := by omega
        have hfin : M.take i = L.filter (keepP m) := HD.out.last (by rw [HN.out]; exact hlt)
        have HF := Lib.hid hfin
        clear hfin
        have hgr := (own_below HO.out (c := g) rfl).2
        go_wp2_with (refine list_clear rfl _ rfl B g j cap i (j - i) (cap - i) (flatP M) rfl HO.out (by omega) (by omega) ?_; intro w7 o7 k7)
        go_ret
        rw [flatP_take, HF.out] at o7
        exact ⟨⟨i, rfl, by omega, o7⟩, HC.out.trans k7 fun _ _ h => h⟩
  · have hfin : L.filter (keepP m) = L := List.filter_eq_self.2 fun y hy => by
      obtain ⟨i, hi, rfl⟩ := List.mem_iff_getElem.1 hy
      have := h1 i L[i] (List.getElem?_eq_getElem hi)
      rw [eq_bytes] at this
      simpa [keepP] using this
    have HF := Lib.hid hfin
    have HB := Lib.hid b1
    clear h1 hfin b1
    go_wp2
    go_ret
    refine ⟨⟨n, rfl, Nat.le_refl _, ?_⟩, Chg.ofBelow HB.out⟩
    rw [HF.out]
    exact own_chg HR.out (Chg.ofBelow HB.out (S := fun _ => False)) fun _ _ _ _ h => h
end Go.Proofs.YtpapfnfdaklnlaaDoor
