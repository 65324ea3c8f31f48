/- The chapter's example of the sets of bytes: the library's builder writes one short text, and gives it back. -/
import Derived.Test.YtpapfnfdaklnlaaDoorTf
namespace Go.Proofs.YtpapfnfdaklnlaaDoor
set_option linter.unusedVariables false
open Go.RowKit

theorem Bu.lt {w : World} {q : Nat} {p v : Value} (h : Bu w q p v) : q < w.heap.size := by
  by_cases hb : q < w.heap.size
  · exact hb
  · unfold Bu at h; simp [Array.getElem?_eq_none (Nat.le_of_not_lt hb)] at h
theorem Bu.set0 {w : World} {q : Nat} {p v : Value} (h : Bu w q p v) (x : Value) : Bu (w.setCell ⟨q, 0, none⟩ x) q x v := by
  have hr := h.lt
  unfold Bu at h
  have h' : w.heap[q] = .cells #[p, v] 79 (0, 0) := by simpa [hr] using h
  have hs : q < (w.setCell ⟨q, 0, none⟩ x).heap.size := by simpa [World.setCell] using hr
  unfold Bu
  rw [Array.getElem?_eq_getElem hs]
  simp [World.setCell, Array.getElem_modify, h']
theorem Bu.set1 {w : World} {q : Nat} {p v : Value} (h : Bu w q p v) (x : Value) : Bu (w.setCell ⟨q, 1, none⟩ x) q p x := by
  have hr := h.lt
  unfold Bu at h
  have h' : w.heap[q] = .cells #[p, v] 79 (0, 0) := by simpa [hr] using h
  have hs : q < (w.setCell ⟨q, 1, none⟩ x).heap.size := by simpa [World.setCell] using hr
  unfold Bu
  rw [Array.getElem?_eq_getElem hs]
  simp [World.setCell, Array.getElem_modify, h']
theorem Bu.cells {w : World} {q : Nat} {p v : Value} (h : Bu w q p v) : w.cell? ⟨q, 0, none⟩ = some p ∧ w.cell? ⟨q, 1, none⟩ = some v ∧ (∀ o, w.frozen? ⟨q, o, none⟩ = false) :=
  ⟨by rw [Lib.cell_of_heap h]; rfl, by rw [Lib.cell_of_heap h]; rfl, fun o => Lib.frozen_of_heap h o⟩
def txt : ByteArray := ⟨#[50, 45, 53]⟩

set_option maxHeartbeats 4000000 in
set_option maxRecDepth 100000 in
theorem write_new (q : Nat) (w : World) (h : Bu w q (.pointer none) (.slice none 0 0)) : Calls Tryd.prog 34 #[.pointer (some ⟨q, 0, none⟩), .string txt] w fun e w' => Below q w w' ∧ e = .returned (.tuple #[.int .i64 3, .nilIface]) ∧ ∃ g c, q < g ∧ Bu w' q (.pointer (some ⟨q, 0, none⟩)) (.slice (some ⟨g, 0, none⟩) 3 c) ∧ w'.ownsRow (q + 1) 5 1 (.slice (some ⟨g, 0, none⟩) 3 c) 3 (Lib.strCells txt) := by
  obtain ⟨i0, hi, hz0, hz1, hz2⟩ := info_three infoByte
  have hq := h.lt
  have nil0 : ∀ W : World, W.ownsRow (q + 1) 5 1 (.slice none 0 0) 0 [] := fun W => ⟨by simp, .inl ⟨rfl, rfl⟩⟩
  have hs : txt.size = 3 := rfl
  go_enter Tryd.func34, Tryd.ntmps34
  go_wp2_with (go_at_call 47; refine (copy_new q _ _ h).mono ?_)
  rintro e w1 ⟨rfl, hw1⟩
  have h1 : Bu w1 q (.pointer (some ⟨q, 0, none⟩)) (.slice none 0 0) := by rw [hw1]; exact h.set0 _
  have b1 : Below q w w1 := by rw [hw1]; exact (Below.refl _ _).setCell (p := ⟨q, 0, none⟩) (Nat.le_refl _) _
  have hq1 := h1.lt
  clear hw1
  obtain ⟨c0, c1, cf⟩ := h1.cells
  go_wp2_with (at_builtin; refine Lib.wpList_append_own_string _ rfl _ _ 32 9 rfl (q + 1) 5 i0 Tryd.underlying32 Tryd.underlying9 hi hz0 hz1 hz2 _ _ _ rfl (nil0 _) txt rfl ?c3 ?c4 ?c5 ?_)
  case c3 => unfold maxLen; omega
  case c4 => omega
  case c5 => omega
  intro v' w2 hown' hgrow _
  have hb2 : Bu w2 q (.pointer (some ⟨q, 0, none⟩)) (.slice none 0 0) := (hgrow.block q hq1 (fun e => by cases e)).trans h1
  have b2 : Below q w w2 := b1.trans ((grown_chg (S := fun _ => False) hgrow (fun k e => by cases e)).below.mono (Nat.le_of_lt hq1))
  obtain ⟨g, cap, cur, rfl, hbg, hrest⟩ : ∃ g cap cur, v' = .slice (some ⟨g, 0, none⟩) 3 cap ∧ q + 1 ≤ g ∧ w2.heap[g]? = some (.cells cur 5 (0, 0)) := by
    rcases hown'.2 with ⟨_, hz⟩ | ⟨g, cap, cur, hv, hb, hr, _⟩
    · exact absurd hz (by decide)
    · exact ⟨g, cap, cur, hv, hb, hr⟩
  have hq2 := hb2.lt
  obtain ⟨d0, d1, df⟩ := hb2.cells
  clear c0 c1 cf h1 h hrest
  go_wp2
  go_ret2
  refine ⟨b2.setCell (p := ⟨q, 1, none⟩) (Nat.le_refl _) _, by kernel_rfl, g, cap, hbg, hb2.set1 _, ?_⟩
  refine own_block hown' (fun c hc => ?_)
  cases hc
  exact Below.heap_setCell _ _ _ _ (by simp only; omega)
end Go.Proofs.YtpapfnfdaklnlaaDoor
