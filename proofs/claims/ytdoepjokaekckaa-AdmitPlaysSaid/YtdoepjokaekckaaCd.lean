/- The reference's call New; the laws' helper same. -/
import Derived.Test.YtdoepjokaekckaaCc
namespace Go.Proofs.Ytdoepjokaekckaa
set_option linter.unusedVariables false
open Go.RowKit

theorem rnumber_yes (w : World) (n : Int) (h : 0 ≤ n ∧ n ≤ 1125899906842624) : Calls Try.prog 50 #[.int .i64 n] w fun e w' => e = .returned (.bool true) ∧ w = w' := by
  obtain ⟨h1, h2⟩ := h
  go_enter Try.func50, Try.ntmps50
  go_wp2
  go_ret
  exact ⟨rfl, rfl⟩
theorem rnumber_no (w : World) (n : Int) (h : ¬ (0 ≤ n ∧ n ≤ 1125899906842624)) : Calls Try.prog 50 #[.int .i64 n] w fun e w' => e = .returned (.bool false) ∧ w = w' := by
  by_cases p : 0 ≤ n
  · have q : decide (n ≤ 1125899906842624) = false := by simp; omega
    go_enter Try.func50, Try.ntmps50
    go_wp2
    go_ret
    exact ⟨rfl, rfl⟩
  · have q : decide (0 ≤ n) = false := by simp; omega
    go_enter Try.func50, Try.ntmps50
    go_wp2
    go_ret
    exact ⟨rfl, rfl⟩
theorem set3_heap {w : World} {g : Nat} {v0 v1 v2 : Value} {t : TypeId} (h : w.heap[g]? = some (.cells #[v0, v1, v2] t (0, 0))) (x0 x1 x2 : Value) : (((w.setCell ⟨g, 0, none⟩ x0).setCell ⟨g, 1, none⟩ x1).setCell ⟨g, 2, none⟩ x2).heap[g]? = some (.cells #[x0, x1, x2] t (0, 0)) := by
  simp [World.setCell, Array.getElem?_modify, h]
set_option maxHeartbeats 2000000 in
set_option maxRecDepth 10000 in
theorem rbook_any (w : World) (all share : Int) (h : 0 ≤ share ∧ share ≤ all ∧ all ≤ 1125899906842624) :
    Calls Try.prog 27 #[.int .i64 all, .int .i64 share] w fun e w' => e = .returned (.tuple #[.agg #[.int .i64 all, .int .i64 share, .slice none 0 0], .int .i64 0]) ∧ Chg (fun _ => False) w w' := by
  obtain ⟨h1, h2, h3⟩ := h
  have q : decide (all < share) = false := by simp; omega
  go_enter Try.func27, Try.ntmps27
  go_upto_region 1 with fail
  refine name_region ?_; intro W hW
  have gW : Chg (fun _ => False) w W := by subst hW; exact (by repeat (first | with_reducible exact Chg.refl _ _ | with_reducible assumption | with_reducible refine Chg.drewN ?_ _ | with_reducible refine Chg.drew ?_ | with_reducible refine Chg.alloc ?_ _ | with_reducible refine Chg.setCell ?_ (by first | (left; rfl) | (left; left; rfl) | (left; right; rfl) | (left; right; left; rfl) | (left; right; right; rfl) | (right; exact Nat.le_refl _) | (right; simp; done) | (right; omega) | (right; simp at *; omega) | (simp at *; omega)) _ | with_reducible refine Chg.trans ?_ (by with_reducible assumption) (by intro i hi hT; first | exact hT | exact False.elim hT | omega | (simp at *; omega))))
  have HW : Hid (W.heap[w.heap.size]? = some (.cells #[.int .i64 0, .int .i64 0, .slice none 0 0] 73 (0, 0))) := by subst hW; exact heap_alloc_new _ _
  have e0 : W.cell? ⟨w.heap.size, 0, none⟩ = some (.int .i64 0) := by subst hW; go_simp
  have e1 : W.cell? ⟨w.heap.size, 1, none⟩ = some (.int .i64 0) := by subst hW; go_simp
  have e2 : W.cell? ⟨w.heap.size, 2, none⟩ = some (.slice none 0 0) := by subst hW; go_simp
  have ef : ∀ o, W.frozen? ⟨w.heap.size, o, none⟩ = false := by subst hW; intro o; go_simp
  clear hW
  go_wp2_with fail
  refine (rnumber_yes W all (by omega)).mono ?_; rintro e w' ⟨rfl, rfl⟩
  go_wp2_with fail
  refine (rnumber_yes W share (by omega)).mono ?_; rintro e w' ⟨rfl, rfl⟩
  go_wp2_with fail
  refine bodyPost_ret (v := .tuple #[.agg #[.int .i64 all, .int .i64 share, .slice none 0 0], .int .i64 0]) ?_ rfl ⟨rfl, gW.trans ((((Chg.refl (fun i => i = w.heap.size) W).setCell (p := ⟨w.heap.size, 0, none⟩) (.inl rfl) _).setCell (p := ⟨w.heap.size, 1, none⟩) (.inl rfl) _).setCell (p := ⟨w.heap.size, 2, none⟩) (.inl rfl) _) fun i hi e => by omega⟩
  refine (results_cell_tmp (fn := Try.f27) rfl _ _ w.heap.size 73 _ (0, 0) _ rfl (set3_heap HW.out _ _ _) Try.underlying73 rfl (by kernel_rfl)).trans rfl
set_option maxHeartbeats 2000000 in
set_option maxRecDepth 10000 in
theorem rbook_no (w : World) (all share : Int) (h : ¬ (0 ≤ share ∧ share ≤ all ∧ all ≤ 1125899906842624)) :
    Calls Try.prog 27 #[.int .i64 all, .int .i64 share] w fun e w' => e = .returned (.tuple #[.agg #[.int .i64 0, .int .i64 0, .slice none 0 0], .int .i64 1]) ∧ Chg (fun _ => False) w w' := by
  go_enter Try.func27, Try.ntmps27
  go_upto_region 1 with fail
  refine name_region ?_; intro W hW
  have gW : Chg (fun _ => False) w W := by subst hW; exact (by repeat (first | with_reducible exact Chg.refl _ _ | with_reducible assumption | with_reducible refine Chg.drewN ?_ _ | with_reducible refine Chg.drew ?_ | with_reducible refine Chg.alloc ?_ _ | with_reducible refine Chg.setCell ?_ (by first | (left; rfl) | (left; left; rfl) | (left; right; rfl) | (left; right; left; rfl) | (left; right; right; rfl) | (right; exact Nat.le_refl _) | (right; simp; done) | (right; omega) | (right; simp at *; omega) | (simp at *; omega)) _ | with_reducible refine Chg.trans ?_ (by with_reducible assumption) (by intro i hi hT; first | exact hT | exact False.elim hT | omega | (simp at *; omega))))
  have HW : Hid (W.heap[w.heap.size]? = some (.cells #[.int .i64 0, .int .i64 0, .slice none 0 0] 73 (0, 0))) := by subst hW; exact heap_alloc_new _ _
  have e0 : W.cell? ⟨w.heap.size, 0, none⟩ = some (.int .i64 0) := by subst hW; go_simp
  have e1 : W.cell? ⟨w.heap.size, 1, none⟩ = some (.int .i64 0) := by subst hW; go_simp
  have e2 : W.cell? ⟨w.heap.size, 2, none⟩ = some (.slice none 0 0) := by subst hW; go_simp
  have ef : ∀ o, W.frozen? ⟨w.heap.size, o, none⟩ = false := by subst hW; intro o; go_simp
  clear hW
  have fin : ∀ W' : World, W' = ((W.setCell ⟨w.heap.size, 0, none⟩ (.int .i64 0)).setCell ⟨w.heap.size, 1, none⟩ (.int .i64 0)).setCell ⟨w.heap.size, 2, none⟩ (.slice none 0 0) → Chg (fun _ => False) w W' ∧ W'.heap[w.heap.size]? = some (.cells #[.int .i64 0, .int .i64 0, .slice none 0 0] 73 (0, 0)) := fun W' e => by
    subst e
    exact ⟨gW.trans ((((Chg.refl (fun i => i = w.heap.size) W).setCell (p := ⟨w.heap.size, 0, none⟩) (.inl rfl) _).setCell (p := ⟨w.heap.size, 1, none⟩) (.inl rfl) _).setCell (p := ⟨w.heap.size, 2, none⟩) (.inl rfl) _) fun i hi e => by omega, set3_heap HW.out _ _ _⟩
  have FIN := Lib.hid fin
  clear fin
  by_cases ha : 0 ≤ all ∧ all ≤ 1125899906842624
  · by_cases hs : 0 ≤ share ∧ share ≤ 1125899906842624
    · have hlt : all < share := by omega
      go_wp2_with fail
      refine (rnumber_yes W all ha).mono ?_; rintro e w' ⟨rfl, rfl⟩
      go_wp2_with fail
      refine (rnumber_yes W share hs).mono ?_; rintro e w' ⟨rfl, rfl⟩
      go_wp2_with fail
      obtain ⟨f1, f2⟩ := FIN.out _ rfl
      refine bodyPost_ret (v := .tuple #[.agg #[.int .i64 0, .int .i64 0, .slice none 0 0], .int .i64 1]) ?_ rfl ⟨rfl, f1⟩
      exact (results_cell_tmp (fn := Try.f27) rfl _ _ w.heap.size 73 _ (0, 0) _ rfl f2 Try.underlying73 rfl (by kernel_rfl)).trans rfl
    · go_wp2_with fail
      refine (rnumber_yes W all ha).mono ?_; rintro e w' ⟨rfl, rfl⟩
      go_wp2_with fail
      refine (rnumber_no W share hs).mono ?_; rintro e w' ⟨rfl, rfl⟩
      go_wp2_with fail
      obtain ⟨f1, f2⟩ := FIN.out _ rfl
      refine bodyPost_ret (v := .tuple #[.agg #[.int .i64 0, .int .i64 0, .slice none 0 0], .int .i64 1]) ?_ rfl ⟨rfl, f1⟩
      exact (results_cell_tmp (fn := Try.f27) rfl _ _ w.heap.size 73 _ (0, 0) _ rfl f2 Try.underlying73 rfl (by kernel_rfl)).trans rfl
  · go_wp2_with fail
    refine (rnumber_no W all ha).mono ?_; rintro e w' ⟨rfl, rfl⟩
    go_wp2_with fail
    obtain ⟨f1, f2⟩ := FIN.out _ rfl
    refine bodyPost_ret (v := .tuple #[.agg #[.int .i64 0, .int .i64 0, .slice none 0 0], .int .i64 1]) ?_ rfl ⟨rfl, f1⟩
    exact (results_cell_tmp (fn := Try.f27) rfl _ _ w.heap.size 73 _ (0, 0) _ rfl f2 Try.underlying73 rfl (by kernel_rfl)).trans rfl
/-- The labels of a new reference's door. -/
def lab1 (q : Nat) (k : Nat) : Nat := if k = q then 3 else if k = q + 1 then 4 else if k = q + 2 then 1 else 0
theorem isP_nil (w : World) : IsP w none 0 [] := ⟨rfl, ⟨Nat.le_refl _, by unfold maxLen; omega⟩, fun _ => ⟨rfl, rfl⟩, (fun u h => by cases h), (fun j u h => by cases h), (fun x h => by cases h)⟩
theorem isT_nil (w : World) : IsT w none 0 [] := ⟨rfl, ⟨Nat.le_refl _, by unfold maxLen; omega⟩, fun _ => ⟨rfl, rfl⟩, (fun u h => by cases h), (fun j u h => by cases h), (fun x h => by cases h)⟩
set_option maxHeartbeats 4000000 in
theorem rnew_door (w : World) (all share : Int) (h : 0 ≤ share ∧ share ≤ all ∧ all ≤ 1125899906842624) :
    Calls Try.prog 10 #[.int .i64 all, .int .i64 share] w fun e w' => ∃ b lr, e = .returned (.tuple #[.pointer (some ⟨b, 0, none⟩), .int .i64 0]) ∧ Rd w' lr b all share [] [] [] ∧ (∀ k, k < w.heap.size → lr k = 0) ∧ Chg (fun _ => False) w w' := by
  have e1 : all.tdiv 5 = all / 5 := Int.tdiv_eq_ediv_of_nonneg (by omega)
  have e2 : IntKind.i64.wrap (all / 5) = all / 5 := IntWalk.i64_in _ (by omega)
  have e3 : IntKind.i64.wrap (all - all / 5) = all - all / 5 := IntWalk.i64_in _ (by omega)
  have HH := Lib.hid h
  clear h
  go_enter Try.func10, Try.ntmps10
  go_wp2_with fail
  refine (rbook_any w all share HH.out).mono ?_; rintro e w1 ⟨rfl, g1⟩
  go_upto_region 2 with fail
  refine name_region ?_; intro W hW
  have gW : Chg (fun _ => False) w1 W := by subst hW; exact (by repeat (first | with_reducible exact Chg.refl _ _ | with_reducible assumption | with_reducible refine Chg.drewN ?_ _ | with_reducible refine Chg.drew ?_ | with_reducible refine Chg.alloc ?_ _ | with_reducible refine Chg.setCell ?_ (by first | (left; rfl) | (left; left; rfl) | (left; right; rfl) | (left; right; left; rfl) | (left; right; right; rfl) | (right; exact Nat.le_refl _) | (right; simp; done) | (right; omega) | (right; simp at *; omega) | (simp at *; omega)) _ | with_reducible refine Chg.trans ?_ (by with_reducible assumption) (by intro i hi hT; first | exact hT | exact False.elim hT | omega | (simp at *; omega))))
  have GW := Lib.hid (g1.trans gW fun _ _ h => h)
  clear hW g1 gW
  go_wp2
  go_ret2
  obtain ⟨Wf, hWf⟩ : ∃ V, V = (((W.alloc (.cells #[.int .i64 (all - all / 5), .slice none 0 0, .slice none 0 0] 79)).alloc (.cells #[.int .i64 4, .int .i64 1024, .int .i64 16384, .int .i64 0, .slice none 0 0, .slice none 0 0] 83)).alloc (.cells #[.int .i64 all, .int .i64 share, .slice none 0 0, .pointer (some ⟨W.heap.size, 0, none⟩), .pointer (some ⟨W.heap.size + 1, 0, none⟩)] 85)) := ⟨_, rfl⟩
  rw [← hWf]
  have gF : Chg (fun _ => False) W Wf := by rw [hWf]; exact (by repeat (first | with_reducible exact Chg.refl _ _ | with_reducible assumption | with_reducible refine Chg.drewN ?_ _ | with_reducible refine Chg.drew ?_ | with_reducible refine Chg.alloc ?_ _ | with_reducible refine Chg.setCell ?_ (by first | (left; rfl) | (left; left; rfl) | (left; right; rfl) | (left; right; left; rfl) | (left; right; right; rfl) | (right; exact Nat.le_refl _) | (right; simp; done) | (right; omega) | (right; simp at *; omega) | (simp at *; omega)) _ | with_reducible refine Chg.trans ?_ (by with_reducible assumption) (by intro i hi hT; first | exact hT | exact False.elim hT | omega | (simp at *; omega))))
  have lF : Wf.heap.size = W.heap.size + 3 := by rw [hWf]; simp
  obtain ⟨L, hL⟩ : ∃ L, L = lab1 W.heap.size := ⟨_, rfl⟩
  have la : ∀ k, k < W.heap.size → L k = 0 := fun k hk => by rw [hL]; unfold lab1; rw [if_neg (by omega), if_neg (by omega), if_neg (by omega)]
  have lb : L W.heap.size = 3 := by rw [hL]; unfold lab1; rw [if_pos rfl]
  have lc : L (W.heap.size + 1) = 4 := by rw [hL]; unfold lab1; rw [if_neg (by omega), if_pos rfl]
  have ld : L (W.heap.size + 2) = 1 := by rw [hL]; unfold lab1; rw [if_neg (by omega), if_neg (by omega), if_pos rfl]
  have lh : ∀ k, W.heap.size + 2 < k → L k = 0 := fun k hk => by rw [hL]; unfold lab1; rw [if_neg (by omega), if_neg (by omega), if_neg (by omega)]
  have low : ∀ k, L k ≠ 0 → k < Wf.heap.size := fun k hk => by
    rcases Nat.lt_or_ge k Wf.heap.size with h | h
    · exact h
    · exact absurd (lh k (by omega)) hk
  have hs := GW.out.size
  refine ⟨W.heap.size + 2, L, rfl, ⟨W.heap.size, W.heap.size + 1, none, 0, [], ?_, List.Perm.nil, ?_⟩, fun k hk => la k (by omega), GW.out.trans gF fun _ _ h => h⟩
  · refine ⟨by rw [hWf]; go_simp, by rw [hWf]; go_simp, by rw [hWf]; go_simp, by rw [hWf]; go_simp, by rw [hWf]; go_simp, by rw [hWf]; intro o; go_simp, ld, isT_nil _, (fun g hg => by cases hg), ?_, ?_, low⟩
    · exact ⟨none, 0, none, 0, ⟨by rw [hWf]; go_simp, by rw [hWf]; go_simp; rfl, by rw [hWf]; go_simp; rfl, by rw [hWf]; intro o; go_simp, isP_nil _, isP_nil _, (fun g hg => by cases hg), (fun g hg => by cases hg)⟩, lb, fun g hg => (by cases hg), fun g hg => (by cases hg), fun k hk => low k (by rw [hk]; omega)⟩
    · refine ⟨W.heap.size + 2, ⟨.slice none 0 0, .slice none 0 0, [], [], ⟨by rw [hWf]; go_simp, by rw [hWf]; go_simp, by rw [hWf]; go_simp, by rw [hWf]; go_simp, by rw [hWf]; go_simp, by rw [hWf]; go_simp, by rw [hWf]; intro o; go_simp, World.ownsRow_nil _ _ _ _, World.ownsRow_nil _ _ _ _, (fun c hc => by cases hc), by omega, by omega⟩, rfl, by simp, fun i _ j _ => by simp [Sk.lk, tabN], (fun t ht => by cases ht), fun c hc => by rcases hc with hc | hc <;> cases hc⟩, lc, fun k hk => low k (by rw [hk]; omega)⟩
  · have := HH.out
    exact ⟨List.nodup_nil, fun t ht => (List.not_mem_nil ht).elim, (by show (0 : Int) ≤ all; omega), fun s => (by show (0 : Int) ≤ share; omega), ⟨this.1, this.2.1, this.2.2⟩⟩
theorem rnew_none (w : World) (all share : Int) (h : ¬ (0 ≤ share ∧ share ≤ all ∧ all ≤ 1125899906842624)) :
    Calls Try.prog 10 #[.int .i64 all, .int .i64 share] w fun e w' => e = .returned (.tuple #[.pointer none, .int .i64 1]) ∧ Chg (fun _ => False) w w' := by
  go_enter Try.func10, Try.ntmps10
  go_wp2_with fail
  refine (rbook_no w all share h).mono ?_; rintro e w1 ⟨rfl, g1⟩
  have G1 := Lib.hid g1
  clear g1
  go_wp2
  go_ret2
  exact ⟨rfl, G1.out.trans (show Chg (fun _ => False) w1 _ from (by repeat (first | with_reducible exact Chg.refl _ _ | with_reducible assumption | with_reducible refine Chg.drewN ?_ _ | with_reducible refine Chg.drew ?_ | with_reducible refine Chg.alloc ?_ _ | with_reducible refine Chg.setCell ?_ (by first | (left; rfl) | (left; left; rfl) | (left; right; rfl) | (left; right; left; rfl) | (left; right; right; rfl) | (right; exact Nat.le_refl _) | (right; simp; done) | (right; omega) | (right; simp at *; omega) | (simp at *; omega)) _ | with_reducible refine Chg.trans ?_ (by with_reducible assumption) (by intro i hi hT; first | exact hT | exact False.elim hT | omega | (simp at *; omega))))) fun _ _ h => h⟩
theorem thing_bel (w : World) (x n : Int) (s : ByteArray) (nm : Int) : Calls Try.prog 12 #[.agg #[.int .i64 x, .int .i64 n, .string s, .int .u64 nm]] w fun e w' => e = .returned (.agg #[.int .i64 x, .int .i64 n, .string s, .int .u64 nm]) ∧ Below w.heap.size w w' :=
  (thing_any w x n s nm).mono fun _ _ ⟨h1, h2⟩ => ⟨h1, Chg.below h2⟩
set_option maxHeartbeats 4000000 in
set_option maxRecDepth 4000 in
theorem same_any (w : World) (lab : Nat → Nat) (d N : Nat) (lr : Nat → Nat) (b : Nat) (room share : Int) (T K : List Tg) (ns ms : List Int) (s : ByteArray) (h1 : Dr w lab d room share N T K ns) (h2 : Rd w lr b room share T K ms) (hN : N ≤ 990) (hl : (T ++ K).length ≤ 990) (hs : s.size ≤ maxLen) :
    Calls Try.prog 19 #[.pointer (some ⟨d, 0, none⟩), .pointer (some ⟨b, 0, none⟩), .string s] w fun e w' => e = .returned (.bool true) ∧ Chg (fun _ => False) w w' := by
  have H1 := Lib.hid h1
  have H2 := Lib.hid h2
  have HI : Hid (DInv room share T K) := h2.inv
  obtain ⟨X, hX⟩ : ∃ X, X = T ++ K := ⟨_, rfl⟩
  rw [← hX] at hl
  have HX := Lib.hid hX
  clear h1 h2 hX
  go_enter Try.func19, Try.ntmps19
  go_wp2_with fail
  refine (bytes_dr w lab d N room share T K ns s H1.out hs).mono ?_; rintro e w1 ⟨rfl, g1⟩
  obtain ⟨A, hA⟩ : ∃ u, u = sumX (T ++ K) := ⟨_, rfl⟩
  obtain ⟨B, hB⟩ : ∃ u, u = ofX (T ++ K) s.data.toList := ⟨_, rfl⟩
  rw [← hA, ← hB]
  have HAB := Lib.hid (And.intro hA hB)
  have G1 := Lib.hid g1
  clear g1 hA hB
  go_wp2_with fail
  refine (rsum_any w1 lr b room share T K ms s (H2.out.still G1.out)).mono ?_; rintro e w2 ⟨rfl, g2⟩
  rw [← HAB.out.1, ← HAB.out.2]
  have G2 := Lib.hid (G1.out.trans g2 fun _ _ h => h)
  clear g2
  go_wp2_with fail
  refine (things_dr w2 lab d N room share T K ns (H1.out.still G2.out) hN).mono ?_; rintro e w3 ⟨a3, c3, rfl, ho3, g3⟩
  rw [← HX.out] at ho3 ⊢
  have HO3 : Hid (IsT w3 a3 c3 X) := RdS.row ho3 (flatT_one _)
  have G3 := Lib.hid (G2.out.trans g3 fun _ _ h => h)
  clear g3 ho3
  go_wp2_with fail
  refine (rthings_any w3 lr b room share T K ms (H2.out.still G3.out) (by rw [← HX.out]; exact hl)).mono ?_; rintro e w4 ⟨a4, c4, rfl, ho4, g4⟩
  rw [← HX.out] at ho4 ⊢
  have HO4 : Hid (IsT w4 a4 c4 X) := RdS.row ho4 (flatT_one _)
  have HP4 : Hid (IsT w4 a3 c3 X) := HO3.out.keep g4 fun _ _ => id
  have G4 := Lib.hid (G3.out.trans g4 fun _ _ h => h)
  clear g4 ho4
  go_wp2_with fail
  go_loopw [47] (fun i wr => ∃ k : Nat, k ≤ X.length ∧ i = .int .i64 (↑k : Int) ∧ Hid (Chg (fun _ => False) w4 wr)) (fun i _ => X.length - (intOf i).toNat)
  case atStart => exact ⟨0, by omega, rfl, Chg.refl _ _⟩
  case round =>
    obtain ⟨k, hk, rfl, HG⟩ := hrel
    obtain ⟨wp, hwp⟩ : ∃ wp, wp = wr := ⟨_, rfl⟩
    subst hwp
    by_cases hkt : k < X.length
    · obtain ⟨⟨y, m, q, qn⟩, ht⟩ : ∃ t, X[k]? = some t := ⟨_, List.getElem?_eq_getElem hkt⟩
      obtain ⟨g, o, rfl, k0, k1, k2, k3⟩ := (HP4.out.keep HG.out fun _ _ => id).at ht
      obtain ⟨g2, o2, rfl, j0, j1, j2, j3⟩ := (HO4.out.keep HG.out fun _ _ => id).at ht
      have hem := HI.out.each (y, m, q, qn) (by rw [← HX.out]; exact List.mem_of_getElem? ht)
      have hyw : (Lit.int .i64 y).wf = true := WalkArith.wf_i64 hem.2.2.1
      have HGX : Hid (getX (T ++ K) y = some (y, m, q, qn)) := (getX_mem (t := (y, m, q, qn)) HI.out.nodup).2 (by rw [← HX.out]; exact List.mem_of_getElem? ht)
      have HH : Hid (∀ dd os, Calls Try.prog 20 #[.pointer (some ⟨d, 0, none⟩), .int .i64 y] (Go.Sort.grow (redrawn wp dd) os) fun e w' => e = .returned (.bool true) ∧ Below (Go.Sort.grow (redrawn wp dd) os).heap.size (Go.Sort.grow (redrawn wp dd) os) w') := fun dd os => by
        refine (has_dr _ lab d N room share T K ns y (((H1.out.still G4.out).still HG.out).still (Chg.ofBelow (below_regrown wp dd os))) hyw).mono ?_
        rintro e w' ⟨rfl, h⟩
        exact ⟨by rw [HGX.out]; rfl, Chg.below h⟩
      clear ht hem
      simp only at k0 k1 k2 k3 j0 j1 j2 j3
      have l0 := cell_lt k0
      have l1 := cell_lt j0
      go_upto_region 9 with fail
      (have hN : wp.heap.size ≤ (World.heap wp).size := by first | assumption | exact Nat.le_refl _ | (simp; done) | omega | (simp; omega) | (simp at *; omega)); (have kr := fun d os b o (h : b < wp.heap.size) => (below_regrown wp d os).cell (p := ⟨b, o, none⟩) (Nat.lt_of_lt_of_le h hN)); (refine wp_region_quiet_below (by kernel_rfl) (by kernel_rfl) ?_); (repeat (first | go_big_quiet_step ((first | (go_at_call 12; exact Calls.regrown_of (thing_bel _ y m q qn)) | (go_at_call 20; exact Calls.regrown_of (HH.out _ _)))) | quiet_step ((first | (go_at_call 12; exact Calls.regrown_of (thing_bel _ y m q qn)) | (go_at_call 20; exact Calls.regrown_of (HH.out _ _)))))); (refine wpQuiet_nil ?_); (intro wF hw9); (obtain ⟨⟨dq, osq⟩, hw9⟩ := hw9); (have g9 := below_regrown wp dq osq); (rw [← hw9] at g9); (have gF : Below (wp.heap.size) _ wF := g9.mono hN); (have zF : wp.heap.size ≤ wF.heap.size := Nat.le_trans hN g9.size); (have cF := fun b o h => gF.cell (p := ⟨b, o, none⟩) h); (have fF := fun b o h => gF.frozen (p := ⟨b, o, none⟩) h); (clear hw9 kr hN g9)
      have gF' : Chg (fun _ => False) wp wF := ⟨gF.os, gF.tape, gF.output, zF, fun k hk _ => gF.block k hk⟩
      have HGF := Lib.hid (HG.out.trans gF' fun _ _ h => h)
      clear gF gF' zF cF fF k0 k1 k2 k3 j0 j1 j2 j3 l0 l1
      go_wp2
      go_roundw
      case rel => exact ⟨k + 1, by omega, by go_num, HGF.out⟩
      case measure => simp [intOf]; omega
    · obtain rfl : k = X.length := by omega
      go_wp2
      go_ret
      exact ⟨rfl, G4.out.trans HG.out fun _ _ h => h⟩
end Go.Proofs.Ytdoepjokaekckaa
