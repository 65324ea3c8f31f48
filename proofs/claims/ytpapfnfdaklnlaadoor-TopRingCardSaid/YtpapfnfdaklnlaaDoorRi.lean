/- The place of the first point of a name. -/
import Derived.Test.YtpapfnfdaklnlaaDoorRh
namespace Go.Proofs.YtpapfnfdaklnlaaDoor
set_option linter.unusedVariables false
open Go.RowKit

set_option maxHeartbeats 4000000 in
theorem index_pts (B g cap n : Nat) (L : List Pt) (b : Nat) (m : ByteArray) (w : World) (hn : L.length = n) (hsz : n < 4611686018427387904) (hr : w.ownsRow B 63 2 (.slice (some ⟨g, 0, none⟩) n cap) n (flatP L)) (hm : w.cell? ⟨b, 0, none⟩ = some (.string m)) :
    Calls Tryd.prog 44 #[.slice (some ⟨g, 0, none⟩) n cap, .func (.func 27) #[] #[.pointer (some ⟨b, 0, none⟩)]] w fun e w' => ((∃ k : Nat, e = .returned (.int .i64 k) ∧ k < n ∧ (∀ (i : Nat) x, L[i]? = some x → i < k → (x.2.toList == m.toList) = false) ∧ (∀ x, L[k]? = some x → (x.2.toList == m.toList) = true)) ∨ (e = .returned (.int .i64 (-1)) ∧ ∀ (i : Nat) x, L[i]? = some x → (x.2.toList == m.toList) = false)) ∧ Below w.heap.size w w' := by
  have HR := Lib.hid hr
  have HN := Lib.hid hn
  have hg := (own_below hr (c := g) rfl).2
  have hb := cell_lt hm
  clear hr hn
  go_enter Tryd.func44, Tryd.ntmps44
  go_wp2
  go_loopw [8] (fun a wr => ∃ k : Nat, k ≤ n ∧ a = .int .i64 (↑k : Int) ∧ Hid (∀ (i : Nat) x, L[i]? = some x → i < k → (x.2.toList == m.toList) = false) ∧ Hid (Below w.heap.size w wr)) (fun a _ => n - (intOf a).toNat)
  case atStart => exact ⟨0, by omega, rfl, fun _ _ _ h => by omega, Below.refl _ _⟩
  case round =>
    obtain ⟨k, h1, rfl, HL, HB⟩ := hrel
    by_cases hlt : k < n
    · obtain ⟨x, hx⟩ : ∃ x, L[k]? = some x := ⟨_, List.getElem?_eq_getElem (by have := HN.out; omega)⟩
      have c0 := ((bcell HB.out).1 g (k * 2) hg).trans (own_cell HR.out (pt_at hx).1).1
      have c1 := ((bcell HB.out).1 g (k * 2 + 1) hg).trans (own_cell HR.out (pt_at hx).2).1
      have HX := Lib.hid hx
      clear hx
      go_wp2_with fail
      refine (del_pt x b m _ (((bcell HB.out).1 b 0 hb).trans hm)).mono ?_; rintro e w5 ⟨rfl, b5⟩
      have HB5 := Lib.hid (HB.out.trans (b5.mono HB.out.size))
      clear b5 c0 c1
      obtain ⟨r, hr⟩ : ∃ r, (x.2.toList == m.toList) = r := ⟨_, rfl⟩
      rw [hr]
      have HRr := Lib.hid hr
      clear hr
      cases r
      · go_wp2_with fail
        go_roundw
        case rel =>
          refine ⟨k + 1, by omega, by go_num, ?_, HB5.out⟩
          intro i y hy hi
          by_cases hik : i = k
          · subst hik; have := HX.out; rw [hy] at this; cases this; exact HRr.out
          · exact HL.out i y hy (by omega)
        case measure => simp [intOf]; omega
      · go_wp2
        go_ret
        refine ⟨.inl ⟨k, rfl, hlt, HL.out, fun y hy => ?_⟩, HB5.out⟩
        have := HX.out; rw [hy] at this; cases this; exact HRr.out
    · obtain rfl : k = n := by omega
      go_wp2
      go_ret
      exact ⟨.inr ⟨rfl, fun i y hy => HL.out i y hy (by have := (List.getElem?_eq_some_iff.1 hy).1; have := HN.out; omega)⟩, HB.out⟩
end Go.Proofs.YtpapfnfdaklnlaaDoor
