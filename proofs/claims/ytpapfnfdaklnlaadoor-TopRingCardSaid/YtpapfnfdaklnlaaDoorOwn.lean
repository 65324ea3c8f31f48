/- Slices of the call's own making: what is known of them. -/
import Derived.Test.YtpapfnfdaklnlaaDoorTail
import Derived.Deep.AppendLies
import Derived.Deep.RegionLaw
import Derived.Deep.DeepCutAuto
namespace Go.Proofs.YtpapfnfdaklnlaaDoor
set_option linter.unusedVariables false
open Go.RowKit

section
variable {w w' : World} {B : Nat} {e : TypeId} {sz n : Nat} {v : Value} {xs : List Value}

theorem own_form (h : w.ownsRow B e sz v n xs) : ∃ a cap, v = .slice a n cap ∧ n ≤ cap ∧ cap ≤ maxLen ∧ ∀ j u, xs[j]? = some u → ∃ g, a = some ⟨g, 0, none⟩ ∧ B ≤ g ∧ g < w.heap.size ∧ w.cell? ⟨g, j, none⟩ = some u ∧ ∀ o, w.frozen? ⟨g, o, none⟩ = false := by
  rcases h.2 with ⟨rfl, rfl⟩ | ⟨g, cap, cur, rfl, hb, hc, h1, h2, h3, h4⟩
  · refine ⟨none, 0, rfl, by omega, by unfold maxLen; omega, fun j u hj => ?_⟩
    have := h.1
    simp at this
    subst this
    simp at hj
  · refine ⟨some ⟨g, 0, none⟩, cap, rfl, h1, h2, fun j u hj => ⟨g, rfl, hb, ?_, ?_, ?_⟩⟩
    · rcases Nat.lt_or_ge g w.heap.size with hlt | hlt
      · exact hlt
      · rw [Array.getElem?_eq_none hlt] at hc; cases hc
    · rw [cell_of_row _ g j cur _ (0, 0) hc]
      have hl : j < n * sz := by rw [← h.1]; exact (List.getElem?_eq_some_iff.1 hj).1
      rw [← h4, List.getElem?_take] at hj
      simpa [hl] using hj
    · intro o
      simp [World.frozen?, hc]

theorem own_cell {g cap : Nat} (h : w.ownsRow B e sz (.slice (some ⟨g, 0, none⟩) n cap) n xs) {j : Nat} {u : Value} (hj : xs[j]? = some u) : w.cell? ⟨g, j, none⟩ = some u ∧ (∀ o, w.frozen? ⟨g, o, none⟩ = false) ∧ B ≤ g ∧ g < w.heap.size := by
  obtain ⟨a, c, he, _, _, hc⟩ := own_form h
  obtain ⟨g', ha, h1, h2, h3, h4⟩ := hc j u hj
  rw [ha] at he
  injection he with he
  injection he with he
  injection he with he
  subst he
  exact ⟨h3, h4, h1, h2⟩

theorem own_below (h : w.ownsRow B e sz v n xs) {c : Nat} (hc : v.ownBlock = some c) : B ≤ c ∧ c < w.heap.size := h.lt c hc

theorem own_block (h : w.ownsRow B e sz v n xs) (hb : ∀ c, v.ownBlock = some c → w'.heap[c]? = w.heap[c]?) : w'.ownsRow B e sz v n xs := by
  refine ⟨h.1, ?_⟩
  rcases h.2 with h0 | ⟨g, cap, cur, rfl, h1, hc, hr⟩
  · exact .inl h0
  · exact .inr ⟨g, cap, cur, rfl, h1, by rw [hb g rfl]; exact hc, hr⟩

theorem own_chg {S : Nat → Prop} (h : w.ownsRow B e sz v n xs) (c : Chg S w w') (hn : ∀ g, B ≤ g → g < w.heap.size → v.ownBlock = some g → ¬ S g) : w'.ownsRow B e sz v n xs :=
  own_block h fun g hg => by have := own_below h hg; exact c.block g this.2 (hn g this.1 this.2 hg)

theorem own_mono (h : w.ownsRow B e sz v n xs) {B' : Nat} (hb : B' ≤ B) : w.ownsRow B' e sz v n xs := by
  refine ⟨h.1, ?_⟩
  rcases h.2 with h0 | ⟨g, cap, cur, rfl, h1, hr⟩
  · exact .inl h0
  · exact .inr ⟨g, cap, cur, rfl, Nat.le_trans hb h1, hr⟩

/-- A cell of the row is written. -/
theorem own_put {g cap : Nat} (h : w.ownsRow B e sz (.slice (some ⟨g, 0, none⟩) n cap) n xs) {j : Nat} (hj : j < xs.length) (u : Value) : (w.setCell ⟨g, j, none⟩ u).ownsRow B e sz (.slice (some ⟨g, 0, none⟩) n cap) n (xs.set j u) := by
  refine ⟨by rw [List.length_set]; exact h.1, ?_⟩
  rcases h.2 with ⟨h0, _⟩ | ⟨g', cap', cur, h0, hb, hc, h1, h2, h3, h4⟩
  · cases h0
  · injection h0 with h0 _ h5
    injection h0 with h0
    injection h0 with h0
    subst h0
    subst h5
    have hl : j < n * sz := by rw [← h.1]; exact hj
    have hlc : j < cur.size := by rw [h3]; exact Nat.lt_of_lt_of_le hl (Nat.mul_le_mul_right _ h1)
    refine .inr ⟨g, cap, cur.set! j u, rfl, hb, ?_, h1, h2, by simpa using h3, ?_⟩
    · rcases Nat.lt_or_ge g w.heap.size with hlt | hlt
      · rw [Array.getElem?_eq_getElem hlt] at hc
        have hc' := Option.some.inj hc
        simp [World.setCell, Array.getElem_modify, hlt, hc']
      · rw [Array.getElem?_eq_none hlt] at hc; cases hc
    · simp [List.take_set, h4]

theorem grown_chg {S : Nat → Prop} {row : Option Nat} (hg : w.grownBy w' row) (hr : ∀ k, row = some k → S k) : Chg S w w' :=
  ⟨hg.os, hg.tape, hg.output, hg.size, fun k hk hn => hg.block k hk (fun e => hn (hr k e.symm))⟩

theorem blocks_apart {a b : Option Nat} (h : ∀ c, a = some c → b ≠ some c) : b = none ∨ b ≠ a := by
  cases b with
  | none => exact .inl rfl
  | some c => exact .inr fun e => h c e.symm rfl
theorem snoc_at {l : List Value} {u : Value} {n : Nat} (h : l.length = n) : (l ++ [u])[n]? = some u := by subst h; simp
theorem put_map {k : IntKind} {l : List Int} {j : Nat} {x : Int} : (l.map (Value.int k)).set j (.int k x) = (l.set j x).map (Value.int k) := by rw [List.map_set]
theorem map_at {k : IntKind} {l : List Int} {j : Nat} {x : Int} (h : l[j]? = some x) : (l.map (Value.int k))[j]? = some (.int k x) := by simp [h]
theorem map_snoc {k : IntKind} {l : List Int} {x : Int} : l.map (Value.int k) ++ [.int k x] = (l ++ [x]).map (Value.int k) := by simp
theorem some_at {l : List Int} {j : Nat} (h : j < l.length) : ∃ x, l[j]? = some x := ⟨_, List.getElem?_eq_getElem h⟩
theorem one_at (w : World) (x : Value) (t : TypeId) (j : Nat) (u : Value) (h : [x][j]? = some u) : (w.alloc (.cells #[x] t)).cell? ((⟨w.heap.size, 0, none⟩ : Addr).add j) = some u :=
  World.news_of_block (cs := #[x]) (t := t) (fr := (0, 0)) (heap_alloc_new w _) j u h
end
end Go.Proofs.YtpapfnfdaklnlaaDoor
