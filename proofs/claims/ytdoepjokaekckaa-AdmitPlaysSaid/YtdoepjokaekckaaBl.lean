/- A new door. -/
import Derived.Test.YtdoepjokaekckaaBk
namespace Go.Proofs.Ytdoepjokaekckaa
set_option linter.unusedVariables false
open Go.RowKit

/-- The labels of a new door. -/
def lab0 (b1 b2 b3 b4 b5 : Nat) (k : Nat) : Nat := if k < b1 then 0 else if k < b2 then 2 else if k < b3 then 3 else if k < b4 then 4 else if k = b4 then 5 else if k = b5 then 1 else 0
set_option maxHeartbeats 4000000 in
theorem new_door (w : World) (all share : Int) (h : 0 ≤ share ∧ share ≤ all ∧ all ≤ 1125899906842624) :
    Calls Try.prog 9 #[.int .i64 all, .int .i64 share] w fun e w' => ∃ d lab, e = .returned (.tuple #[.pointer (some ⟨d, 0, none⟩), .int .i64 0]) ∧ Dr w' lab d all share 0 [] [] [] ∧ (∀ k, k < w.heap.size → lab k = 0) ∧ Chg (fun _ => False) w w' := by
  have hmm := @run_makeMap Try.prog
  have e1 : all.tdiv 5 = all / 5 := Int.tdiv_eq_ediv_of_nonneg (by omega)
  have e2 : IntKind.i64.wrap (all / 5) = all / 5 := IntWalk.i64_in _ (by omega)
  have e3 : IntKind.i64.wrap (all - all / 5) = all - all / 5 := IntWalk.i64_in _ (by omega)
  have HH := Lib.hid h
  clear h
  go_enter Try.func9, Try.ntmps9
  go_wp2_with fail
  refine (bnew_ok w all share HH.out.1 HH.out.2.1 HH.out.2.2).mono ?_; rintro e w1 ⟨rfl, hb, g1⟩
  have HB := Lib.hid hb
  have G1 := Lib.hid g1
  clear hb g1
  go_wp2_with fail
  have hbm : badMost (all - all / 5) = false := by
    have := HH.out
    unfold badMost
    exact decN (by omega)
  refine (new_ls (w := w1) (most := all - all / 5) hbm).mono ?_; rintro e w2 ⟨rfl, hl, g2⟩
  have HL := Lib.hid hl
  have G2 := Lib.hid g2
  clear hl g2 hbm e1 e2 e3
  go_wp2_with fail
  refine (Sk.new_try 4 1024 16384 w2 (by omega) (by omega) (by omega)).mono ?_; rintro e w3 ⟨rfl, ⟨g, cap, R, hs, hg, hR⟩, g3⟩
  have HS := Lib.hid hs
  have HGR := Lib.hid (And.intro hg hR)
  have G3 := Lib.hid g3
  clear hs hg hR g3
  go_wp2
  go_ret2
  have l1 := (HB.out).lt w.heap.size (.inl rfl)
  have l2 : w1.heap.size < w2.heap.size := by obtain ⟨_, _, _, _, _, _, _, h⟩ := HL.out; exact h _ rfl
  have l3 : w2.heap.size < w3.heap.size := cell_lt HS.out.c0
  have lg : g < w3.heap.size := cell_lt (HS.out.rows 0 (by omega))
  have lR : ∀ i, i < 4 → R i < w3.heap.size := fun i hi => cell_lt (HS.out.cells i hi 0 (by omega))
  obtain ⟨Wf, hWf⟩ : ∃ W, W = ((w3.alloc (.map #[] 0)).alloc (.cells #[.int .i64 all, .int .i64 share, .pointer (some ⟨w.heap.size, 0, none⟩), .pointer (some ⟨w1.heap.size, 0, none⟩), .pointer (some ⟨w2.heap.size, 0, none⟩), .map (some w3.heap.size)] 70)) := ⟨_, rfl⟩
  rw [← hWf]
  have gF : Chg (fun _ => False) w3 Wf := by rw [hWf]; exact (by repeat (first | with_reducible exact Chg.refl _ _ | with_reducible assumption | with_reducible refine Chg.drewN ?_ _ | with_reducible refine Chg.drew ?_ | with_reducible refine Chg.alloc ?_ _ | with_reducible refine Chg.setCell ?_ (by first | (left; rfl) | (left; left; rfl) | (left; right; rfl) | (left; right; left; rfl) | (left; right; right; rfl) | (right; exact Nat.le_refl _) | (right; simp; done) | (right; omega) | (right; simp at *; omega) | (simp at *; omega)) _ | with_reducible refine Chg.trans ?_ (by with_reducible assumption) (by intro i hi hT; first | exact hT | exact False.elim hT | omega | (simp at *; omega))))
  have lF : Wf.heap.size = w3.heap.size + 2 := by rw [hWf]; simp
  have hm : TgM Wf w3.heap.size 0 (fun _ => none) := by rw [hWf]; exact (tgM_made w3).chg (S := fun _ => False) (by repeat (first | with_reducible exact Chg.refl _ _ | with_reducible assumption | with_reducible refine Chg.drewN ?_ _ | with_reducible refine Chg.drew ?_ | with_reducible refine Chg.alloc ?_ _ | with_reducible refine Chg.setCell ?_ (by first | (left; rfl) | (left; left; rfl) | (left; right; rfl) | (left; right; left; rfl) | (left; right; right; rfl) | (right; exact Nat.le_refl _) | (right; simp; done) | (right; omega) | (right; simp at *; omega) | (simp at *; omega)) _ | with_reducible refine Chg.trans ?_ (by with_reducible assumption) (by intro i hi hT; first | exact hT | exact False.elim hT | omega | (simp at *; omega)))) id
  obtain ⟨L, hL⟩ : ∃ L, L = lab0 w.heap.size w1.heap.size w2.heap.size w3.heap.size (w3.heap.size + 1) := ⟨_, rfl⟩
  have la : ∀ k, k < w.heap.size → L k = 0 := fun k hk => by rw [hL]; unfold lab0; rw [if_pos hk]
  have lb : ∀ k, w.heap.size ≤ k → k < w1.heap.size → L k = 2 := fun k h1 h2 => by rw [hL]; unfold lab0; rw [if_neg (by omega), if_pos h2]
  have lc : ∀ k, w1.heap.size ≤ k → k < w2.heap.size → L k = 3 := fun k h1 h2 => by rw [hL]; unfold lab0; rw [if_neg (by omega), if_neg (by omega), if_pos h2]
  have ld : ∀ k, w2.heap.size ≤ k → k < w3.heap.size → L k = 4 := fun k h1 h2 => by rw [hL]; unfold lab0; rw [if_neg (by omega), if_neg (by omega), if_neg (by omega), if_pos h2]
  have le : L w3.heap.size = 5 := by rw [hL]; unfold lab0; rw [if_neg (by omega), if_neg (by omega), if_neg (by omega), if_neg (by omega), if_pos rfl]
  have lf : L (w3.heap.size + 1) = 1 := by rw [hL]; unfold lab0; rw [if_neg (by omega), if_neg (by omega), if_neg (by omega), if_neg (by omega), if_neg (by omega), if_pos rfl]
  have lh : ∀ k, w3.heap.size + 1 < k → L k = 0 := fun k hk => by rw [hL]; unfold lab0; rw [if_neg (by omega), if_neg (by omega), if_neg (by omega), if_neg (by omega), if_neg (by omega), if_neg (by omega)]
  have G123 : Chg (fun _ => False) w1 Wf := (G2.out.trans G3.out fun _ _ h => h).trans gF fun _ _ h => h
  refine ⟨w3.heap.size + 1, L, rfl, ⟨w.heap.size, w1.heap.size, w2.heap.size, w3.heap.size, ?_, ?_⟩, la, G1.out.trans G123 fun _ _ h => h⟩
  · refine ⟨by rw [hWf]; go_simp, by rw [hWf]; go_simp, by rw [hWf]; go_simp, by rw [hWf]; go_simp, by rw [hWf]; go_simp, by rw [hWf]; go_simp, lf, ⟨.map none, HB.out.still G123, fun k hk => ?_⟩, ?_, ?_, hm, le, fun k hk => ?_⟩
    · rcases hk with rfl | hk
      · exact lb _ (Nat.le_refl _) l1
      · cases hk
    · refine (HL.out.still (G3.out.trans gF fun _ _ h => h)).wide (fun k hk => by rw [hk]; exact lc _ (Nat.le_refl _) l2) fun k hk => ?_
      rcases Nat.lt_or_ge k Wf.heap.size with h | h
      · exact h
      · have h1 := lh k (by omega)
        have hk : L k = 3 := hk
        omega
    · exact ⟨g, cap, R, HS.out.chg gF id id fun _ _ => id, ld _ (Nat.le_refl _) l3, ld _ (by have := HGR.out.1; omega) lg, fun i hi => ld _ (by have := HGR.out.2 i hi; omega) (lR i hi)⟩
    · rcases Nat.lt_or_ge k Wf.heap.size with h | h
      · exact h
      · exact absurd (lh k (by omega)) hk
  · have := HH.out
    exact ⟨List.nodup_nil, fun t ht => (List.not_mem_nil ht).elim, (by show (0 : Int) ≤ all; omega), fun s => (by show (0 : Int) ≤ share; omega), ⟨this.1, this.2.1, this.2.2⟩⟩
theorem new_none (w : World) (all share : Int) (h : ¬ (0 ≤ share ∧ share ≤ all ∧ all ≤ 1125899906842624)) :
    Calls Try.prog 9 #[.int .i64 all, .int .i64 share] w fun e w' => e = .returned (.tuple #[.pointer none, .int .i64 1]) ∧ w = w' := by
  go_enter Try.func9, Try.ntmps9
  go_wp2_with fail
  refine (bnew_no w all share h).mono ?_; rintro e w1 ⟨rfl, rfl⟩
  go_wp2
  go_ret2
  exact ⟨rfl, rfl⟩
end Go.Proofs.Ytdoepjokaekckaa
