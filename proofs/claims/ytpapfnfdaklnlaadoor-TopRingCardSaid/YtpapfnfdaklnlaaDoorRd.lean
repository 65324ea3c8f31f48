/- The sort of a ring's points, in a row of the call's own. -/
import Derived.Test.YtpapfnfdaklnlaaDoorRp
import Derived.Test.YtpapfnfdaklnlaaDoorRa
import Derived.Test.YtpapfnfdaklnlaaDoorOwn
import Derived.Shelf.SlSortCmp.WholeK
namespace Go.Proofs.YtpapfnfdaklnlaaDoor
set_option linter.unusedVariables false
open Go.Shelf Go.RowKit Go.Sort

abbrev Pt := Int × ByteArray
def encP (x : Pt) : List Value := [.int .u64 x.1, .string x.2]
def flatP (L : List Pt) : List Value := L.flatMap encP
theorem flatP_len (L : List Pt) : (flatP L).length = L.length * 2 := by
  induction L with
  | nil => rfl
  | cons x L ih => simp only [flatP, List.flatMap_cons, List.length_append, List.length_cons] at ih ⊢; rw [ih]; simp [encP]; omega
theorem flatP_get : ∀ (L : List Pt) (t : Nat), t < L.length * 2 → (flatP L)[t]? = some (encP L[t / 2]!)[t % 2]!
  | [], t, h => by simp at h
  | x :: L, 0, _ => by simp [flatP, encP]
  | x :: L, 1, _ => by simp [flatP, encP]
  | x :: L, t + 2, h => by
    have e1 : (t + 2) / 2 = t / 2 + 1 := by omega
    have e2 : (t + 2) % 2 = t % 2 := by omega
    have := flatP_get L t (by simp at h; omega)
    rw [e1, e2]
    simpa [flatP, encP] using this
theorem flatK_list (L : List Pt) : (flatK encP 2 L.toArray).toList = flatP L := by
  apply List.ext_getElem?
  intro t
  by_cases ht : t < L.length * 2
  · rw [flatP_get L t ht]
    have hs : t < (flatK encP 2 L.toArray).size := by simpa using ht
    rw [Array.getElem?_toList, Array.getElem?_eq_getElem hs, ← getElem!_pos _ t hs, get_flatK _ _ _ _ (by simpa using ht)]
    simp
  · rw [List.getElem?_eq_none (by simp; omega), List.getElem?_eq_none (by rw [flatP_len]; omega)]
theorem pt_holds {w : World} {B g cap n : Nat} {L : List Pt} (hn : L.length = n) (h : w.ownsRow B 63 2 (.slice (some ⟨g, 0, none⟩) n cap) n (flatP L)) : HoldsK encP 2 w g 0 L.toArray := by
  intro j hj
  have hj' : j < L.length * 2 := by simpa using hj
  have e : (flatP L)[j]? = some (flatK encP 2 L.toArray)[j]! := by rw [flatP_get L j hj', get_flatK _ _ _ _ (by simpa using hj')]; simp
  obtain ⟨h1, h2, _⟩ := own_cell h e
  rw [Nat.zero_add]
  exact ⟨h1, h2 j⟩
theorem heap_pts {w : World} {g n : Nat} {os : Array Obj} {cur : Array Value} {e : TypeId} {fr : Nat × Nat} (F : Array Value) (hb : w.heap[g]? = some (.cells cur e fr)) :
    (grow (putRow id (Sort.ahead w n) g 0 F) os).heap[g]? = some (.cells (putCells id 0 F cur) e fr) := by
  have hg : g < w.heap.size := (Array.getElem?_eq_some_iff.1 hb).1
  rw [heap_grow_old _ _ (by simpa using hg)]
  simp [putRow, mapBlock, Sort.ahead, Array.getElem?_modify, hb, onCells]
theorem take_pts (cur F : Array Value) (h : F.size ≤ cur.size) : (putCells id 0 F cur).toList.take F.size = F.toList := by
  apply List.ext_getElem?
  intro j
  by_cases hj : j < F.size
  · rw [List.getElem?_take_of_lt hj, Array.getElem?_toList]
    simp [putCells, hj, show j < cur.size by omega]
  · rw [List.getElem?_take_eq_none (by omega), List.getElem?_eq_none (by simp; omega)]
theorem own_sorted {w : World} {B g cap n m : Nat} {os : Array Obj} {L M : List Pt} (hn : L.length = n) (hM : M.length = n) (h : w.ownsRow B 63 2 (.slice (some ⟨g, 0, none⟩) n cap) n (flatP L)) :
    (sortWorldK encP 2 w g 0 m M.toArray os).ownsRow B 63 2 (.slice (some ⟨g, 0, none⟩) n cap) n (flatP M) := by
  have hs : (flatK encP 2 M.toArray).size = n * 2 := by simp [hM]
  rcases h.2 with ⟨hv, _⟩ | ⟨g', cap', cur, hv, hb, hg, h1, h2, h3, _⟩
  · cases hv
  · cases hv
    refine ⟨by rw [flatP_len, hM], .inr ⟨g, cap, _, rfl, hb, heap_pts _ hg, h1, h2, by simp [putCells, h3], ?_⟩⟩
    rw [← hs, take_pts _ _ (by rw [hs, h3]; omega), flatK_list]
theorem chg_sorted {w : World} {g m : Nat} {os : Array Obj} {M : List Pt} : Chg (fun k => k = g) w (sortWorldK encP 2 w g 0 m M.toArray os) := by
  refine ⟨rfl, rfl, rfl, by simp [sortWorldK, putRowK, Sort.ahead, grow], fun k hk hne => ?_⟩
  show (grow (putRow id (Sort.ahead w m) g 0 (flatK encP 2 M.toArray)) os).heap[k]? = _
  rw [heap_grow_old _ _ (by simpa using hk)]
  have : g ≠ k := fun e => hne e.symm
  simp [putRow, mapBlock, Sort.ahead, Array.getElem?_modify, this]
theorem isAggPt : ∀ w, (isAgg 63).run Tryd.prog w = .ok true w := Tryd.isAgg63
theorem sizePt : ∀ w, (Go.sizeOf 63).run Tryd.prog w = .ok 2 w := Tryd.sizeOf63
theorem sort_pts (B g cap n : Nat) (L : List Pt) (w : World) (hn : L.length = n) (h : w.ownsRow B 63 2 (.slice (some ⟨g, 0, none⟩) n cap) n (flatP L)) (hsz : n < 4611686018427387904) :
    Calls Tryd.prog 20 #[.slice (some ⟨g, 0, none⟩) n cap, .func (.func 21) #[] #[]] w fun e w' => e = .returned (.tuple #[]) ∧ ∃ M, M.Perm L ∧ Asc M ∧ w'.ownsRow B 63 2 (.slice (some ⟨g, 0, none⟩) n cap) n (flatP M) ∧ Chg (fun k => k = g) w w' := by
  have eg : ∀ args w, (callFunc 21 args).run Tryd.prog w = .ok (.enter 21 args) w := enters_of Tryd.func21 (by kernel_rfl) rfl
  have hsL : L.toArray.size = n := by simp [hn]
  have hcon := AnyQ.slices_SortFunc sortLays 2 isAggPt sizePt encP (fun _ => rfl) (fun x v hv => by simp [encP] at hv; rcases hv with rfl | rfl <;> rfl) cmpP swoP 21 #[] g 0 cap L.toArray w eg
    (fun _ _ _ _ x y => less_pt x y _) (pt_holds hn h) (own_below h (c := g) rfl).2 (by rw [hsL]; exact hsz)
  rw [hsL] at hcon
  change Calls Tryd.prog 20 _ _ _ at hcon
  refine hcon.mono ?_
  rintro e w' ⟨rfl, d', m, os, hp, hs, rfl⟩
  have hd : d'.size = n := by rw [hp.1, hsL]
  have hperm : d'.toList.Perm L := by
    have h1 : (List.take n d'.toList).Perm (List.take n L) := by simpa using hp.2.2
    rwa [List.take_of_length_le (by simp [hd]), List.take_of_length_le (by omega)] at h1
  refine ⟨rfl, d'.toList, hperm, ?_, ?_, ?_⟩
  · refine List.pairwise_iff_getElem.2 fun i j hi hj hij => ?_
    have hi' : i < d'.size := by simpa using hi
    have hj' : j < d'.size := by simpa using hj
    have h1 := hs i j (Nat.zero_le _) hij (by omega)
    rw [getElem!_pos d' i hi', getElem!_pos d' j hj'] at h1
    intro hb
    rw [(ltP _ _).2 (by simpa using hb)] at h1
    cases h1
  · have := own_sorted (M := d'.toList) (m := m) (os := os) hn (by simp [hd]) h
    simpa using this
  · have := chg_sorted (w := w) (g := g) (m := m) (os := os) (M := d'.toList)
    simpa using this
end Go.Proofs.YtpapfnfdaklnlaaDoor
