/- The map of extents: giving back. -/
import Derived.Test.YtheiodnckjmieaaEc
namespace Go.Proofs.Ytheiodnckjmieaa
set_option linter.unusedVariables false
open Go.RowKit

theorem give_final {hi base : Int} {A R A0 mL mR R0 : List Ext} {e : Ext} {x n : Int} (h : Norm hi base (A ++ R)) (hA : A = A0 ++ mL) (hR : R = mR ++ R0) (h1 : endOf base A0 ≤ e.1) (h2 : 1 ≤ e.2) (h3 : e.1 + e.2 ≤ hi)
    (h4 : ∀ q ∈ R0.head?, e.1 + e.2 + 1 ≤ q.1) (hm : ∀ y, inE y e ↔ Mem y (mL ++ mR) ∨ inE y (x, n)) : Norm hi base (A0 ++ e :: R0) ∧ ∀ y, Mem y (A0 ++ e :: R0) ↔ Mem y (A ++ R) ∨ inE y (x, n) := by
  subst hA hR
  have e1 : A0 ++ mL ++ (mR ++ R0) = A0 ++ ((mL ++ mR) ++ R0) := by simp
  rw [e1] at h ⊢
  exact give_norm h h1 h2 h3 h4 hm
theorem nil_or_snoc (l : List Ext) : l = [] ∨ ∃ l' p, l = l' ++ [p] := by
  rcases List.eq_nil_or_concat l with h | ⟨l', p, h⟩
  · exact .inl h
  · exact .inr ⟨l', p, by rw [h, List.concat_eq_append]⟩
theorem mem_two {p q : Ext} {y : Int} : Mem y ([p] ++ [q]) ↔ inE y p ∨ inE y q := by
  rw [mem_append, mem_cons, mem_cons]
  simp [mem_nil]
theorem mem_one {p : Ext} {y : Int} : Mem y [p] ↔ inE y p := by
  rw [mem_cons]
  simp [mem_nil]

theorem RdS.undrew {w : World} {sz n cap : Nat} {a : Option Addr} {xs : List Value} (h : RdS w.drew sz a n cap xs) : RdS w sz a n cap xs := ⟨h.1, h.2, h.3, h.4, h.5, h.6⟩
theorem rd_cells {w : World} {q : Nat} {u v : Int} (h0 : w.cell? ⟨q, 0, none⟩ = some (.int .i64 u)) (h1 : w.cell? ⟨q, 1, none⟩ = some (.int .i64 v)) : RdS w 2 (some ⟨q, 0, none⟩) 1 1 (flat [(u, v)]) := by
  refine ⟨rfl, ⟨Nat.le_refl _, by unfold maxLen; omega⟩, (fun e => nomatch e), flat_one _, fun j u' hj => ?_, fun x hx => by injection hx with hx; exact ⟨_, _, hx.symm⟩⟩
  refine ⟨q, 0, rfl, ?_⟩
  match j, hj with
  | 0, hj => injection hj with hj; subst hj; exact h0
  | 1, hj => injection hj with hj; subst hj; exact h1

set_option maxHeartbeats 1000000 in
theorem give_not (w : World) (S : Nat → Prop) (b : Nat) (base sec : Int) (a : Option Addr) (c : Nat) (fs : List Ext) (x n : Int) (h : Em w S b base sec a c fs) (hx : -9223372036854775808 ≤ x ∧ x ≤ 9223372036854775807) (hn : -9223372036854775808 ≤ n ∧ n ≤ 9223372036854775807) (ho : oursB base sec x n = false) :
    Calls Try.prog 23 #[.pointer (some ⟨b, 0, none⟩), .agg #[.int .i64 x, .int .i64 n]] w fun e w' => e = .returned (.int .i64 1) ∧ Below w.heap.size w w' := by
  have H := Lib.hid h
  clear h
  go_enter Try.func23, Try.ntmps23
  go_wp2_with fail
  refine name_calls ?_; intro W hW
  have gW : Chg (fun _ => False) w W := by subst hW; exact (by repeat (first | with_reducible exact Chg.refl _ _ | with_reducible assumption | with_reducible refine Chg.drewN ?_ _ | with_reducible refine Chg.drew ?_ | with_reducible refine Chg.alloc ?_ _ | with_reducible refine Chg.setCell ?_ (by first | (left; rfl) | (right; exact Nat.le_refl _) | (right; simp; done) | (right; omega) | (right; simp at *; omega) | (simp at *; omega)) _ | with_reducible refine Chg.trans ?_ (by with_reducible assumption) (by intro i hi hT; first | exact hT | exact False.elim hT | omega | (simp at *; omega))))
  clear hW
  refine ((H.out.chg gW (fun _ _ h => h.elim) id).ours x n hx hn).mono ?_; rintro e w2 ⟨rfl, g2⟩
  rw [ho]
  go_wp2
  go_ret
  exact ⟨rfl, Chg.below (gW.trans (Chg.ofBelow g2) (fun _ _ h => h))⟩

/-- What is known when the sectors are joined to what lies ahead of them (mL: it, or nothing). -/
structure Gv (w wx : World) (base : Int) (A : List Ext) (x n : Int) (i : Nat) (A0 mL : List Ext) (u v : Int) : Prop where
  chg : Chg (fun _ => False) w wx
  b0 : wx.cell? ⟨w.heap.size, 0, none⟩ = some (.int .i64 u)
  b1 : wx.cell? ⟨w.heap.size, 1, none⟩ = some (.int .i64 v)
  bf : ∀ o, wx.frozen? ⟨w.heap.size, o, none⟩ = false
  sz : w.heap.size < wx.heap.size
  hA : A = A0 ++ mL
  hi : i = A0.length
  low : endOf base A0 ≤ u
  sum : u + v = x + n
  bd : 0 ≤ u ∧ u ≤ x
  hm : ∀ y, inE y (u, v) ↔ Mem y mL ∨ inE y (x, n)
/-- .. and to what lies behind them (mR). -/
structure Gw (w wx : World) (base sec : Int) (A R : List Ext) (x n : Int) (i j : Nat) (A0 mL mR R0 : List Ext) (u v : Int) : Prop where
  chg : Chg (fun _ => False) w wx
  b0 : wx.cell? ⟨w.heap.size, 0, none⟩ = some (.int .i64 u)
  b1 : wx.cell? ⟨w.heap.size, 1, none⟩ = some (.int .i64 v)
  bf : ∀ o, wx.frozen? ⟨w.heap.size, o, none⟩ = false
  sz : w.heap.size < wx.heap.size
  hA : A = A0 ++ mL
  hi : i = A0.length
  hR : R = mR ++ R0
  hj : j = A.length + mR.length
  low : endOf base A0 ≤ u
  pos : 0 ≤ u ∧ 1 ≤ v ∧ u + v ≤ base + sec
  high : ∀ q ∈ R0.head?, u + v + 1 ≤ q.1
  hm : ∀ y, inE y (u, v) ↔ Mem y (mL ++ mR) ∨ inE y (x, n)

set_option maxHeartbeats 4000000 in
set_option maxRecDepth 100000 in
theorem give_nil (w : World) (S : Nat → Prop) (b : Nat) (base sec : Int) (x n : Int) (h : Em w S b base sec none 0 []) (hx : -9223372036854775808 ≤ x ∧ x ≤ 9223372036854775807) (hn : -9223372036854775808 ≤ n ∧ n ≤ 9223372036854775807) (ho : oursB base sec x n = true) :
    Calls Try.prog 23 #[.pointer (some ⟨b, 0, none⟩), .agg #[.int .i64 x, .int .i64 n]] w fun e w' =>
      e = .returned (.int .i64 0) ∧ (∃ a' c', Em w' S b base sec a' c' [(x, n)]) ∧ Chg (fun k => k = b) w w' := by
  obtain ⟨ie, hie, ez0, ez1, ez2⟩ := info_parts infoExt
  have lb := cell_lt h.c0
  have hbd := h.bd
  have hoi := ours_iff ho
  have H := Lib.hid h
  clear h
  go_enter Try.func23, Try.ntmps23
  go_wp2_with fail
  refine name_calls ?_; intro W hW
  have gW : Chg (fun _ => False) w W := by subst hW; exact (by repeat (first | with_reducible exact Chg.refl _ _ | with_reducible assumption | with_reducible refine Chg.drewN ?_ _ | with_reducible refine Chg.drew ?_ | with_reducible refine Chg.alloc ?_ _ | with_reducible refine Chg.setCell ?_ (by first | (left; rfl) | (right; exact Nat.le_refl _) | (right; simp; done) | (right; omega) | (right; simp at *; omega) | (simp at *; omega)) _ | with_reducible refine Chg.trans ?_ (by with_reducible assumption) (by intro i hi hT; first | exact hT | exact False.elim hT | omega | (simp at *; omega))))
  have x0 : W.cell? ⟨w.heap.size, 0, none⟩ = some (.int .i64 x) := by subst hW; go_simp
  have x1 : W.cell? ⟨w.heap.size, 1, none⟩ = some (.int .i64 n) := by subst hW; go_simp
  have xf : ∀ o, W.frozen? ⟨w.heap.size, o, none⟩ = false := by subst hW; intro o; go_simp
  have z1 : w.heap.size < W.heap.size := by subst hW; simp
  clear hW
  refine ((H.out.chg gW (fun _ _ h => h.elim) id).ours x n hx hn).mono ?_; rintro e w2 ⟨rfl, g2⟩
  rw [ho]
  have g2' := Chg.ofBelow (S := fun _ => False) g2
  have g3 := gW.trans g2' (fun _ _ h => h)
  have y0 : w2.cell? ⟨w.heap.size, 0, none⟩ = some (.int .i64 x) := by rw [g2'.cell z1 id]; exact x0
  have y1 : w2.cell? ⟨w.heap.size, 1, none⟩ = some (.int .i64 n) := by rw [g2'.cell z1 id]; exact x1
  have yf : ∀ o, w2.frozen? ⟨w.heap.size, o, none⟩ = false := fun o => by rw [g2'.frozen z1 id]; exact xf o
  have z2 : w.heap.size < w2.heap.size := Nat.lt_of_lt_of_le z1 g2.size
  clear g2 g2' gW x0 x1 xf z1 ho
  go_wp2_with fail
  have H2 := H.out.chg g3 (fun _ _ h => h.elim) id
  refine (meets_any w2 S b base sec none 0 [] x H2 hx).mono ?_; rintro e w3 ⟨⟨A, R, hAR, rfl, hA, hR⟩, g4⟩
  obtain ⟨rfl, rfl⟩ := List.append_eq_nil_iff.1 hAR.symm
  clear hA hR hAR
  have g4' := Chg.ofBelow (S := fun _ => False) g4
  have g5 := Lib.hid (g3.trans g4' (fun _ _ h => h))
  have H3 := Lib.hid (H.out.chg g5.out (fun _ _ h => h.elim) id)
  have v0 : w3.cell? ⟨w.heap.size, 0, none⟩ = some (.int .i64 x) := by rw [g4'.cell z2 id]; exact y0
  have v1 : w3.cell? ⟨w.heap.size, 1, none⟩ = some (.int .i64 n) := by rw [g4'.cell z2 id]; exact y1
  have vf : ∀ o, w3.frozen? ⟨w.heap.size, o, none⟩ = false := fun o => by rw [g4'.frozen z2 id]; exact yf o
  have z3 : w.heap.size < w3.heap.size := Nat.lt_of_lt_of_le z2 g4.size
  have lb3 : b < w3.heap.size := by omega
  have fz := H3.out.fz
  have c2 : w3.cell? ⟨b, 2, none⟩ = some (.slice none 0 0) := H3.out.c2
  clear g3 g4 g4' y0 y1 yf z2 H2
  go_wp2_with fail
  go_quiet (fail)
  go_wp2_with fail
  go_quiet (fail)
  go_wp2_with fail
  go_quiet (fail)
  go_wp2_with fail
  refine name_region ?_; intro wc hwc
  have gc : Chg (fun _ => False) w wc := by subst hwc; exact g5.out.trans (T := fun _ => False) (by repeat (first | with_reducible exact Chg.refl _ _ | with_reducible assumption | with_reducible refine Chg.drewN ?_ _ | with_reducible refine Chg.drew ?_ | with_reducible refine Chg.alloc ?_ _ | with_reducible refine Chg.setCell ?_ (by first | (left; rfl) | (right; exact Nat.le_refl _) | (right; simp; done) | (right; omega) | (right; simp at *; omega) | (simp at *; omega)) _ | with_reducible refine Chg.trans ?_ (by with_reducible assumption) (by intro i hi hT; first | exact hT | exact False.elim hT | omega | (simp at *; omega)))) (fun _ _ h => h)
  have b0 : wc.cell? ⟨w.heap.size, 0, none⟩ = some (.int .i64 x) := by subst hwc; exact v0
  have b1 : wc.cell? ⟨w.heap.size, 1, none⟩ = some (.int .i64 n) := by subst hwc; exact v1
  have c2 : wc.cell? ⟨b, 2, none⟩ = some (.slice none 0 0) := by subst hwc; exact c2
  have fz : ∀ o, wc.frozen? ⟨b, o, none⟩ = false := by subst hwc; exact fz
  have sz : w.heap.size < wc.heap.size := by subst hwc; exact z3
  have lbc : b < wc.heap.size := by omega
  clear hwc v0 v1 vf z3 lb3
  have H7 := Lib.hid (H.out.chg gc (fun _ _ h => h.elim) id)
  have RN : ∀ w', RdS w' 2 none 0 0 (flat []) := fun w' => ⟨rfl, ⟨Nat.le_refl _, by unfold maxLen; omega⟩, fun _ => ⟨rfl, rfl⟩, flat_one _, fun j u' hj => by simp [flat] at hj, fun x hx => by cases hx⟩
  have hn2 : Norm (base + sec) base [(x, n)] := ⟨hoi.2.1, hoi.1, hoi.2.2, trivial⟩
  have HN2 := Lib.hid hn2
  clear hn2
  go_region_law (first
    | (refine step_full (by rfl) _ _ 36 (by rfl) 44 ie _ 2 16 Try.underlying36 hie ez0 ez1 ez2 rfl (by decide) (by rfl) (by rfl) (rd_cells (u := x) (v := n) (by go_simp) (by go_simp)) (RN _) (by unfold maxLen; omega) (by omega) ?_; intro a3 c3 w3 ho3 hg3 hown3; have s3 := hg3.size; simp at s3; have f1 : w3.cell? ⟨b, 2, none⟩ = some (.slice none 0 0) := (by rw [hg3.cell_far _ (by simp; omega) (by simp)]; go_simp); have f2 : w3.frozen? ⟨b, 2, none⟩ = false := (by rw [hg3.frozen_far _ (by simp; omega) (by simp)]; go_simp); have j3 : Chg (fun _ => False) wc w3 := Chg.grown (by repeat (first | with_reducible exact Chg.refl _ _ | with_reducible assumption | with_reducible refine Chg.drewN ?_ _ | with_reducible refine Chg.drew ?_ | with_reducible refine Chg.alloc ?_ _ | with_reducible refine Chg.setCell ?_ (by first | (left; rfl) | (right; exact Nat.le_refl _) | (right; simp; done) | (right; omega) | (right; simp at *; omega) | (simp at *; omega)) _ | with_reducible refine Chg.trans ?_ (by with_reducible assumption) (by intro i hi hT; first | exact hT | exact False.elim hT | omega | (simp at *; omega)))) hg3 (by simp))
    | (refine step_full (by rfl) _ _ 36 (by rfl) 44 ie _ 2 16 Try.underlying36 hie ez0 ez1 ez2 rfl (by decide) (by rfl) (by rfl) (RN _) ho3 (by unfold maxLen; omega) (by omega) ?_; intro a4 c4 w4 rd4 hg4 hown4; rw [Nat.zero_add] at rd4 hown4 ⊢; have s4 := hg4.size; have f3 : w4.cell? ⟨b, 2, none⟩ = some (.slice none 0 0) := (by rw [hg4.cell_far _ (by simp; omega) (by simp)]; exact f1); have f4 : w4.frozen? ⟨b, 2, none⟩ = false := (by rw [hg4.frozen_far _ (by simp; omega) (by simp)]; exact f2); have j4 : Chg (fun _ => False) wc w4 := Chg.grown j3 hg4 (by simp)))
  all_goals go_wp2
  all_goals go_ret
  all_goals
    have hp := H7.out.put (a' := a4) (c' := c4) j4 (fun k hk => id) (fs' := [(x, n)]) rd4 (fun q hq => by
      rcases hown4 q hq with h | h
      · exact .inl h
      · right; exact ⟨by have := j3.size; omega, h.2⟩) HN2.out
    exact ⟨rfl, ⟨a4, c4, hp.1⟩, (gc.mono (T := fun k => k = b) (fun _ _ h => h.elim)).trans hp.2 (fun _ _ h => h)⟩

set_option maxHeartbeats 4000000 in
set_option maxRecDepth 100000 in
theorem give_list (w : World) (S : Nat → Prop) (b : Nat) (base sec : Int) (a : Option Addr) (c : Nat) (fs : List Ext) (x n : Int) (h : Em w S b base sec a c fs) (hx : -9223372036854775808 ≤ x ∧ x ≤ 9223372036854775807) (hn : -9223372036854775808 ≤ n ∧ n ≤ 9223372036854775807) (ho : oursB base sec x n = true) :
    Calls Try.prog 23 #[.pointer (some ⟨b, 0, none⟩), .agg #[.int .i64 x, .int .i64 n]] w fun e w' =>
      ((∀ y, inE y (x, n) → ¬ Mem y fs) ∧ e = .returned (.int .i64 0) ∧ (∃ gs, (∃ a' c', Em w' S b base sec a' c' gs) ∧ ∀ y, Mem y gs ↔ Mem y fs ∨ inE y (x, n)) ∧ Chg (fun k => k = b) w w') ∨
      ((∃ y, inE y (x, n) ∧ Mem y fs) ∧ e = .returned (.int .i64 6) ∧ Below w.heap.size w w') := by
  cases a with
  | none =>
    obtain ⟨h1, rfl⟩ := h.rd.nil rfl
    obtain rfl := List.eq_nil_of_length_eq_zero h1
    refine (give_nil w S b base sec x n h hx hn ho).mono ?_
    rintro e w' ⟨rfl, ⟨a', c', hE⟩, hg⟩
    exact .inl ⟨fun y _ hm => mem_nil y hm, rfl, ⟨_, ⟨a', c', hE⟩, fun y => by simp [mem_one, mem_nil]⟩, hg⟩
  | some adr =>
  obtain ⟨ie, hie, ez0, ez1, ez2⟩ := info_parts infoExt
  have lb := cell_lt h.c0
  have few := h.few
  have hbd := h.bd
  have hoi := ours_iff ho
  have H := Lib.hid h
  clear h
  go_enter Try.func23, Try.ntmps23
  go_wp2_with fail
  refine name_calls ?_; intro W hW
  have gW : Chg (fun _ => False) w W := by subst hW; exact (by repeat (first | with_reducible exact Chg.refl _ _ | with_reducible assumption | with_reducible refine Chg.drewN ?_ _ | with_reducible refine Chg.drew ?_ | with_reducible refine Chg.alloc ?_ _ | with_reducible refine Chg.setCell ?_ (by first | (left; rfl) | (right; exact Nat.le_refl _) | (right; simp; done) | (right; omega) | (right; simp at *; omega) | (simp at *; omega)) _ | with_reducible refine Chg.trans ?_ (by with_reducible assumption) (by intro i hi hT; first | exact hT | exact False.elim hT | omega | (simp at *; omega))))
  have x0 : W.cell? ⟨w.heap.size, 0, none⟩ = some (.int .i64 x) := by subst hW; go_simp
  have x1 : W.cell? ⟨w.heap.size, 1, none⟩ = some (.int .i64 n) := by subst hW; go_simp
  have xf : ∀ o, W.frozen? ⟨w.heap.size, o, none⟩ = false := by subst hW; intro o; go_simp
  have z1 : w.heap.size < W.heap.size := by subst hW; simp
  clear hW
  refine ((H.out.chg gW (fun _ _ h => h.elim) id).ours x n hx hn).mono ?_; rintro e w2 ⟨rfl, g2⟩
  rw [ho]
  have g2' := Chg.ofBelow (S := fun _ => False) g2
  have g3 := gW.trans g2' (fun _ _ h => h)
  have y0 : w2.cell? ⟨w.heap.size, 0, none⟩ = some (.int .i64 x) := by rw [g2'.cell z1 id]; exact x0
  have y1 : w2.cell? ⟨w.heap.size, 1, none⟩ = some (.int .i64 n) := by rw [g2'.cell z1 id]; exact x1
  have yf : ∀ o, w2.frozen? ⟨w.heap.size, o, none⟩ = false := fun o => by rw [g2'.frozen z1 id]; exact xf o
  have z2 : w.heap.size < w2.heap.size := Nat.lt_of_lt_of_le z1 g2.size
  clear g2 g2' gW x0 x1 xf z1 ho
  go_wp2_with fail
  have H2 := H.out.chg g3 (fun _ _ h => h.elim) id
  refine (meets_any w2 S b base sec _ c fs x H2 hx).mono ?_; rintro e w3 ⟨⟨A, R, rfl, rfl, hA, hR⟩, g4⟩
  have g4' := Chg.ofBelow (S := fun _ => False) g4
  have g5 := Lib.hid (g3.trans g4' (fun _ _ h => h))
  have H3 := Lib.hid (H.out.chg g5.out (fun _ _ h => h.elim) id)
  have v0 : w3.cell? ⟨w.heap.size, 0, none⟩ = some (.int .i64 x) := by rw [g4'.cell z2 id]; exact y0
  have v1 : w3.cell? ⟨w.heap.size, 1, none⟩ = some (.int .i64 n) := by rw [g4'.cell z2 id]; exact y1
  have vf : ∀ o, w3.frozen? ⟨w.heap.size, o, none⟩ = false := fun o => by rw [g4'.frozen z2 id]; exact yf o
  have z3 : w.heap.size < w3.heap.size := Nat.lt_of_lt_of_le z2 g4.size
  have lb3 : b < w3.heap.size := by omega
  have fz := H3.out.fz
  obtain ⟨L, hL⟩ : ∃ L, L = (A ++ R).length := ⟨_, rfl⟩
  obtain ⟨i, hi⟩ : ∃ i, i = A.length := ⟨_, rfl⟩
  have c2 : w3.cell? ⟨b, 2, none⟩ = some (.slice (some adr) L c) := by rw [hL]; exact H3.out.c2
  have hcap : L ≤ c ∧ c ≤ 9223372036854775807 := by have := H3.out.rd.le; rw [← hL] at this; unfold maxLen at this; exact this
  have HA := Lib.hid hA
  have HR := Lib.hid hR
  have HLen : Hid (L = A.length + R.length) := by show L = _; rw [hL]; simp
  have few2 : L ≤ 1048576 := by omega
  have hiL : (i : Int) ≤ L := by have := HLen.out; omega
  have HI := Lib.hid hi
  rw [← hi]
  have HN := Lib.hid H.out.norm
  have HEach : Hid (∀ f ∈ A ++ R, 0 ≤ f.1 ∧ 1 ≤ f.2 ∧ f.1 + f.2 ≤ 2097152 ∧ base ≤ f.1 ∧ f.1 + f.2 ≤ base + sec) := fun f hf => H.out.each hf
  clear g3 g4 g4' y0 y1 yf z2 H2 hA hR few hL hi
  -- does what lies behind overlap?
  go_upto_region 4 with fail
  go_cut [37] (fun d wx => ∃ dd, d = .bool dd ∧ (dd = true ↔ ∃ q ∈ R.head?, q.1 < x + n) ∧ Hid (∃ m, wx = w3.drewN m))
  case first =>
    cases R with
    | nil =>
      have r0 : decide (i < L) = false := by have h1 := HLen.out; have h2 := HI.out; rw [List.length_nil] at h1; rw [decide_eq_false_iff_not]; omega
      go_quiet (fail)
      go_wp2
      go_meet
      exact ⟨_, rfl, by simp, _, rfl⟩
    | cons q R' =>
      have r0 : decide ((i : Int) < L) = true := by have h1 := HLen.out; have h2 := HI.out; rw [List.length_cons] at h1; rw [decide_eq_true_iff]; omega
      have r1 : (i : Int) < L := by simpa using r0
      have hat : (A ++ q :: R')[i]? = some q := by rw [HI.out]; simp
      obtain ⟨g, o, hadr, lg, k0, k1⟩ := H3.out.rd.at hat
      injection hadr with hadr
      subst hadr
      have hb := H3.out.each (List.mem_of_getElem? hat)
      clear hat
      go_quiet (fail)
      go_wp2
      go_meet
      exact ⟨_, rfl, by simp, _, rfl⟩
  case rest =>
    obtain ⟨d, rfl, hd, hw⟩ := hcut
    obtain ⟨m, rfl⟩ := hw.out
    cases d with
    | true =>
      obtain ⟨q, hq, hqx⟩ := hd.1 rfl
      go_wp2
      go_ret
      refine .inr ⟨?_, rfl, Chg.below (g5.out.trans (by repeat (first | with_reducible exact Chg.refl _ _ | with_reducible assumption | with_reducible refine Chg.drewN ?_ _ | with_reducible refine Chg.drew ?_ | with_reducible refine Chg.alloc ?_ _ | with_reducible refine Chg.setCell ?_ (by first | (left; rfl) | (right; exact Nat.le_refl _) | (right; simp; done) | (right; omega) | (right; simp at *; omega) | (simp at *; omega)) _ | with_reducible refine Chg.trans ?_ (by with_reducible assumption) (by intro i hi hT; first | exact hT | exact False.elim hT | omega | (simp at *; omega)))) (fun _ _ h => h))⟩
      have hqR : q ∈ R := List.mem_of_mem_head? hq
      have hq2 := HR.out q hqR
      by_cases ho : x < q.1
      · exact ⟨q.1, ⟨by show x ≤ q.1; omega, by show q.1 < x + n; omega⟩, mem_append.2 (.inr ⟨q, hqR, Int.le_refl _, by have := (HEach.out q (by simp [hqR])).2.1; omega⟩)⟩
      · exact ⟨x, ⟨Int.le_refl _, by show x < x + n; omega⟩, mem_append.2 (.inr ⟨q, hqR, by omega, hq2⟩)⟩
    | false =>
      have HQ : Hid (∀ q ∈ R.head?, x + n ≤ q.1) := fun q hq => by
        rcases Int.lt_or_le q.1 (x + n) with h | h
        · have := hd.2 ⟨q, hq, h⟩; cases this
        · exact h
      have HNO : Hid (∀ y, inE y (x, n) → ¬ Mem y (A ++ R)) := fun y hy hm => by
        unfold inE at hy
        rcases mem_append.1 hm with ⟨f, hf, hyf⟩ | hm
        · have := HA.out f hf; unfold inE at hyf; omega
        · cases R with
          | nil => exact mem_nil y hm
          | cons q R' =>
            have h1 := HQ.out q (by simp)
            have hn2 := (norm_app.1 HN.out).2
            rcases mem_cons.1 hm with h | h
            · unfold inE at h; omega
            · have := hn2.2.2.2.mem h; have := hn2.2.1; omega
      clear hd hw
      -- is it joined to what lies ahead?
      go_upto_region 7 with fail
      go_cut [64] (fun d wx => ∃ dd, d = .bool dd ∧ (dd = true ↔ ∃ p ∈ A.getLast?, p.1 + p.2 = x) ∧ Hid (∃ m, wx = w3.drewN m))
      case first =>
        rcases nil_or_snoc A with rfl | ⟨A', p, rfl⟩
        · obtain rfl : i = 0 := HI.out
          go_quiet (fail)
          go_wp2
          go_meet
          exact ⟨_, rfl, by simp, _, by rw [World.drewN_drewN]⟩
        · obtain ⟨i', rfl⟩ : ∃ i', i = i' + 1 := ⟨A'.length, by rw [HI.out]; simp⟩
          have hat : (A' ++ [p] ++ R)[i']? = some p := by have := HI.out; simp at this; simp [this]
          obtain ⟨g, o, hadr, _, j0, j1⟩ := H3.out.rd.at hat
          injection hadr with hadr
          subst hadr
          have hp := H3.out.each (List.mem_of_getElem? hat)
          clear hat
          have r2 : (i' : Int) + 1 ≤ L := by omega
          go_quiet (fail)
          go_wp2
          go_meet
          exact ⟨_, rfl, by simp, _, by rw [World.drewN_drewN]⟩
      case rest =>
        obtain ⟨d, rfl, hd, hw⟩ := hcut
        obtain ⟨m, rfl⟩ := hw.out
        go_upto_if 64 with fail
        go_cut [5] (fun i5 wx => ∃ (i0 : Nat) (A0 mL : List Ext) (u v : Int), i5 = .int .i64 (↑i0 : Int) ∧ i0 ≤ i ∧ Hid (Gv w wx base A x n i0 A0 mL u v))
        case first =>
          cases d with
          | true =>
            obtain ⟨p, hpA, hpx⟩ := hd.1 rfl
            obtain ⟨A', rfl⟩ : ∃ A', A = A' ++ [p] := by
              rcases nil_or_snoc A with rfl | ⟨A', p', rfl⟩
              · simp at hpA
              · simp at hpA; subst hpA; exact ⟨A', rfl⟩
            obtain ⟨i', rfl⟩ : ∃ i', i = i' + 1 := ⟨A'.length, by rw [HI.out]; simp⟩
            have hat : (A' ++ [p] ++ R)[i']? = some p := by have := HI.out; simp at this; simp [this]
            obtain ⟨g, o, hadr, lg, j0, j1⟩ := H3.out.rd.at hat
            injection hadr with hadr
            subst hadr
            have hp := H3.out.each (List.mem_of_getElem? hat)
            have r2 : (i' : Int) + 1 ≤ L := by omega
            clear hat hd hw hpA
            go_wp2_with fail
            refine name_region ?_; intro W4 hW4
            have g6 : Hid (Chg (fun _ => False) w W4) := by subst hW4; exact g5.out.trans (T := fun _ => False) (by repeat (first | with_reducible exact Chg.refl _ _ | with_reducible assumption | with_reducible refine Chg.drewN ?_ _ | with_reducible refine Chg.drew ?_ | with_reducible refine Chg.alloc ?_ _ | with_reducible refine Chg.setCell ?_ (by first | (left; rfl) | (right; exact Nat.le_refl _) | (right; simp; done) | (right; omega) | (right; simp at *; omega) | (simp at *; omega)) _ | with_reducible refine Chg.trans ?_ (by with_reducible assumption) (by intro i hi hT; first | exact hT | exact False.elim hT | omega | (simp at *; omega)))) (fun _ _ h => h)
            have b0 : W4.cell? ⟨w.heap.size, 0, none⟩ = some (.int .i64 x) := by subst hW4; exact v0
            have b1 : W4.cell? ⟨w.heap.size, 1, none⟩ = some (.int .i64 n) := by subst hW4; exact v1
            have bf : ∀ o, W4.frozen? ⟨w.heap.size, o, none⟩ = false := by subst hW4; exact vf
            have c2 : W4.cell? ⟨b, 2, none⟩ = some (.slice (some ⟨g, o, none⟩) L c) := by subst hW4; exact c2
            have j0 : W4.cell? ⟨g, o + i' * 2, none⟩ = some (.int .i64 p.1) := by subst hW4; exact j0
            have j1 : W4.cell? ⟨g, o + i' * 2 + 1, none⟩ = some (.int .i64 p.2) := by subst hW4; exact j1
            have zW : w3.heap.size ≤ W4.heap.size := by subst hW4; simp
            have lbW : b < W4.heap.size := by omega
            have lgW : g < W4.heap.size := by omega
            have lwW : w.heap.size < W4.heap.size := by omega
            clear hW4
            (have hN : W4.heap.size ≤ (World.heap W4).size := by first | assumption | exact Nat.le_refl _ | (simp; done) | omega | (simp; omega) | (simp at *; omega)); (have kr := fun d os b o (h : b < W4.heap.size) => (below_regrown W4 d os).cell (p := ⟨b, o, none⟩) (Nat.lt_of_lt_of_le h hN)); (refine wp_region_below_tail 20 (by kernel_rfl) (by kernel_rfl) ?_); (simp only [List.take_succ_cons, List.take_zero, List.drop_succ_cons, List.drop_zero]); (repeat (first | go_big_quiet_step ((first | fail)) | quiet_step ((first | fail)))); (refine wpQuiet_nil ?_); (intro w5 hw9); (obtain ⟨⟨dq, osq⟩, hw9⟩ := hw9); (have g9 := below_regrown W4 dq osq); (rw [← hw9] at g9); (have g5 : Below (W4.heap.size) _ w5 := g9.mono hN); (have z5 : W4.heap.size ≤ w5.heap.size := Nat.le_trans hN g9.size); (have c5 := fun b o h => g5.cell (p := ⟨b, o, none⟩) h); (have f5 := fun b o h => g5.frozen (p := ⟨b, o, none⟩) h); (clear hw9 kr hN g9)
            have d0 : w5.cell? ⟨w.heap.size, 0, none⟩ = some (.int .i64 x) := by rw [c5 w.heap.size 0 lwW]; exact b0
            have d1 : w5.cell? ⟨w.heap.size, 1, none⟩ = some (.int .i64 n) := by rw [c5 w.heap.size 1 lwW]; exact b1
            have df : ∀ o, w5.frozen? ⟨w.heap.size, o, none⟩ = false := fun o => by rw [f5 w.heap.size o lwW]; exact bf o
            have k5 : Chg (fun _ => False) W4 w5 := ⟨g5.os, g5.tape, g5.output, z5, fun k hk _ => g5.block k hk⟩
            have z6 : w.heap.size < w5.heap.size := by omega
            clear c5 f5 b0 b1 bf c2 j0 j1
            go_wp2
            go_meet
            refine ⟨i', A', [p], p.1, p.2 + n, rfl, by omega, ?_, ?_, ?_, ?_, ?_, rfl, by have := HI.out; simp at this; exact this, ?_, by omega, by omega, ?_⟩
            · exact (g6.out.trans k5 (fun _ _ h => h)).trans (T := fun q => q = w.heap.size) (by repeat (first | with_reducible exact Chg.refl _ _ | with_reducible assumption | with_reducible refine Chg.drewN ?_ _ | with_reducible refine Chg.drew ?_ | with_reducible refine Chg.alloc ?_ _ | with_reducible refine Chg.setCell ?_ (by first | (left; rfl) | (right; exact Nat.le_refl _) | (right; simp; done) | (right; omega) | (right; simp at *; omega) | (simp at *; omega)) _ | with_reducible refine Chg.trans ?_ (by with_reducible assumption) (by intro i hi hT; first | exact hT | exact False.elim hT | omega | (simp at *; omega)))) (fun q hq h => by omega)
            · go_simp
            · go_simp
            · intro o; go_simp
            · simpa [World.setCell] using z6
            · have hn2 := HN.out
              rw [List.append_assoc] at hn2
              exact (norm_app.1 hn2).2.1
            · intro y
              rw [mem_one]
              unfold inE
              simp only
              omega
          | false =>
            go_wp2
            go_meet
            refine ⟨i, A, [], x, n, rfl, Nat.le_refl _, g5.out.trans (T := fun _ => False) (by repeat (first | with_reducible exact Chg.refl _ _ | with_reducible assumption | with_reducible refine Chg.drewN ?_ _ | with_reducible refine Chg.drew ?_ | with_reducible refine Chg.alloc ?_ _ | with_reducible refine Chg.setCell ?_ (by first | (left; rfl) | (right; exact Nat.le_refl _) | (right; simp; done) | (right; omega) | (right; simp at *; omega) | (simp at *; omega)) _ | with_reducible refine Chg.trans ?_ (by with_reducible assumption) (by intro i hi hT; first | exact hT | exact False.elim hT | omega | (simp at *; omega)))) (fun _ _ h => h), v0, v1, vf, z3, by simp, HI.out, ?_, rfl, by omega, ?_⟩
            · rcases nil_or_snoc A with rfl | ⟨A', p, rfl⟩
              · exact hoi.2.1
              · rw [endOf_snoc]
                have := HA.out p (by simp)
                have hne : p.1 + p.2 ≠ x := fun e => by have := hd.2 ⟨p, by simp, e⟩; cases this
                omega
            · intro y
              simp [mem_nil]
        case rest =>
          obtain ⟨i0, A0, mL, u, v, rfl, hi0, HG⟩ := hcut
          have b0 := HG.out.b0
          have b1 := HG.out.b1
          have bf := HG.out.bf
          have sz := HG.out.sz
          have H6 := Lib.hid (H.out.chg HG.out.chg (fun _ _ h => h.elim) id)
          have hsum := HG.out.sum
          have hbd2 := HG.out.bd
          have hi0L : (i0 : Int) ≤ L := by omega
          have c2 : wc.cell? ⟨b, 2, none⟩ = some (.slice (some adr) L c) := by have h1 := H6.out.c2; have h2 := H3.out.c2; rw [c2] at h2; injection h2 with h2; rw [h2]; exact h1
          have fz := H6.out.fz
          have lbc := cell_lt c2
          clear hd hw v0 v1 vf z3 lb3 HA
          -- is it joined to what lies behind?
          go_upto_region 10 with fail
          go_cut [109] (fun d wx => ∃ dd, d = .bool dd ∧ (dd = true ↔ ∃ q ∈ R.head?, q.1 = x + n) ∧ Hid (∃ m, wx = wc.drewN m))
          case first =>
            cases R with
            | nil =>
              have r0 : decide (i < L) = false := by have h1 := HLen.out; have h2 := HI.out; rw [List.length_nil] at h1; rw [decide_eq_false_iff_not]; omega
              go_quiet (fail)
              go_wp2
              go_meet
              exact ⟨_, rfl, by simp, _, rfl⟩
            | cons q R' =>
              have r0 : decide ((i : Int) < L) = true := by have h1 := HLen.out; have h2 := HI.out; rw [List.length_cons] at h1; rw [decide_eq_true_iff]; omega
              have r1 : (i : Int) < L := by simpa using r0
              have hat : (A ++ q :: R')[i]? = some q := by rw [HI.out]; simp
              obtain ⟨g, o, hadr, lg, k0, k1⟩ := H6.out.rd.at hat
              injection hadr with hadr
              subst hadr
              have hb := H6.out.each (List.mem_of_getElem? hat)
              clear hat
              go_quiet (fail)
              go_wp2
              go_meet
              exact ⟨_, rfl, by simp, _, rfl⟩
          case rest =>
            obtain ⟨d, rfl, hd, hw⟩ := hcut
            obtain ⟨m2, rfl⟩ := hw.out
            go_upto_if 109 with fail
            go_cut [6] (fun j6 wx => ∃ (j : Nat) (mR R0 : List Ext) (v' : Int), j6 = .int .i64 (↑j : Int) ∧ j ≤ L ∧ Hid (Gw w wx base sec A R x n i0 j A0 mL mR R0 u v'))
            case first =>
              cases d with
              | true =>
                obtain ⟨q, hqR, hqx⟩ := hd.1 rfl
                obtain ⟨R', rfl⟩ : ∃ R', R = q :: R' := by
                  cases R with
                  | nil => simp at hqR
                  | cons q' R' => simp at hqR; subst hqR; exact ⟨R', rfl⟩
                have r1 : (i : Int) < L := by have h1 := HLen.out; have h2 := HI.out; rw [List.length_cons] at h1; omega
                have hat : (A ++ q :: R')[i]? = some q := by rw [HI.out]; simp
                obtain ⟨g, o, hadr, lg, k0, k1⟩ := H6.out.rd.at hat
                injection hadr with hadr
                subst hadr
                have hb := H6.out.each (List.mem_of_getElem? hat)
                have hv : 0 ≤ v ∧ v ≤ 2097152 := by omega
                clear hat hd hw hqR hsum
                go_wp2_with fail
                refine name_region ?_; intro W4 hW4
                have g6 : Hid (Chg (fun _ => False) w W4) := by subst hW4; exact HG.out.chg.trans (T := fun _ => False) (by repeat (first | with_reducible exact Chg.refl _ _ | with_reducible assumption | with_reducible refine Chg.drewN ?_ _ | with_reducible refine Chg.drew ?_ | with_reducible refine Chg.alloc ?_ _ | with_reducible refine Chg.setCell ?_ (by first | (left; rfl) | (right; exact Nat.le_refl _) | (right; simp; done) | (right; omega) | (right; simp at *; omega) | (simp at *; omega)) _ | with_reducible refine Chg.trans ?_ (by with_reducible assumption) (by intro i hi hT; first | exact hT | exact False.elim hT | omega | (simp at *; omega)))) (fun _ _ h => h)
                have b0 : W4.cell? ⟨w.heap.size, 0, none⟩ = some (.int .i64 u) := by subst hW4; exact b0
                have b1 : W4.cell? ⟨w.heap.size, 1, none⟩ = some (.int .i64 v) := by subst hW4; exact b1
                have bf : ∀ o, W4.frozen? ⟨w.heap.size, o, none⟩ = false := by subst hW4; exact bf
                have c2 : W4.cell? ⟨b, 2, none⟩ = some (.slice (some ⟨g, o, none⟩) L c) := by subst hW4; exact c2
                have j0 : W4.cell? ⟨g, o + i * 2, none⟩ = some (.int .i64 q.1) := by subst hW4; exact k0
                have j1 : W4.cell? ⟨g, o + i * 2 + 1, none⟩ = some (.int .i64 q.2) := by subst hW4; exact k1
                have zW : wc.heap.size ≤ W4.heap.size := by subst hW4; simp
                have lbW : b < W4.heap.size := by omega
                have lgW : g < W4.heap.size := by omega
                have lwW : w.heap.size < W4.heap.size := by omega
                clear hW4
                (have hN : W4.heap.size ≤ (World.heap W4).size := by first | assumption | exact Nat.le_refl _ | (simp; done) | omega | (simp; omega) | (simp at *; omega)); (have kr := fun d os b o (h : b < W4.heap.size) => (below_regrown W4 d os).cell (p := ⟨b, o, none⟩) (Nat.lt_of_lt_of_le h hN)); (refine wp_region_below_tail 12 (by kernel_rfl) (by kernel_rfl) ?_); (simp only [List.take_succ_cons, List.take_zero, List.drop_succ_cons, List.drop_zero]); (repeat (first | go_big_quiet_step ((first | fail)) | quiet_step ((first | fail)))); (refine wpQuiet_nil ?_); (intro w5 hw9); (obtain ⟨⟨dq, osq⟩, hw9⟩ := hw9); (have g9 := below_regrown W4 dq osq); (rw [← hw9] at g9); (have g5 : Below (W4.heap.size) _ w5 := g9.mono hN); (have z5 : W4.heap.size ≤ w5.heap.size := Nat.le_trans hN g9.size); (have c5 := fun b o h => g5.cell (p := ⟨b, o, none⟩) h); (have f5 := fun b o h => g5.frozen (p := ⟨b, o, none⟩) h); (clear hw9 kr hN g9)
                have d0 : w5.cell? ⟨w.heap.size, 0, none⟩ = some (.int .i64 u) := by rw [c5 w.heap.size 0 lwW]; exact b0
                have d1 : w5.cell? ⟨w.heap.size, 1, none⟩ = some (.int .i64 v) := by rw [c5 w.heap.size 1 lwW]; exact b1
                have df : ∀ o, w5.frozen? ⟨w.heap.size, o, none⟩ = false := fun o => by rw [f5 w.heap.size o lwW]; exact bf o
                have k5 : Chg (fun _ => False) W4 w5 := ⟨g5.os, g5.tape, g5.output, z5, fun k hk _ => g5.block k hk⟩
                have z6 : w.heap.size < w5.heap.size := by omega
                clear c5 f5 b0 b1 bf c2 j0 j1
                go_wp2
                go_meet
                have hsum := HG.out.sum
                refine ⟨i + 1, [q], R', v + q.2, by go_num, by omega, ?_, ?_, ?_, ?_, ?_, HG.out.hA, HG.out.hi, rfl, by rw [HI.out]; rfl, HG.out.low, by omega, ?_, ?_⟩
                · exact (g6.out.trans k5 (fun _ _ h => h)).trans (T := fun q => q = w.heap.size) (by repeat (first | with_reducible exact Chg.refl _ _ | with_reducible assumption | with_reducible refine Chg.drewN ?_ _ | with_reducible refine Chg.drew ?_ | with_reducible refine Chg.alloc ?_ _ | with_reducible refine Chg.setCell ?_ (by first | (left; rfl) | (right; exact Nat.le_refl _) | (right; simp; done) | (right; omega) | (right; simp at *; omega) | (simp at *; omega)) _ | with_reducible refine Chg.trans ?_ (by with_reducible assumption) (by intro i hi hT; first | exact hT | exact False.elim hT | omega | (simp at *; omega)))) (fun q hq h => by omega)
                · go_simp
                · go_simp
                · intro o; go_simp
                · simpa [World.setCell] using z6
                · intro q' hq'
                  have hn2 := (norm_app.1 HN.out).2.2.2.2
                  cases R' with
                  | nil => simp at hq'
                  | cons q2 R2 => simp at hq'; subst hq'; have := hn2.1; omega
                · intro y
                  have := HG.out.hm y
                  rw [mem_append, mem_one]
                  unfold inE at this ⊢
                  simp only at this ⊢
                  by_cases hy : u ≤ y ∧ y < u + v
                  · have h1 := this.1 hy
                    constructor
                    · intro _
                      rcases h1 with h1 | h1
                      · exact .inl (.inl h1)
                      · exact .inr h1
                    · intro _; omega
                  · constructor
                    · intro h2; exact .inl (.inr (by omega))
                    · rintro ((h2 | h2) | h2)
                      · exact absurd (this.2 (.inl h2)) hy
                      · omega
                      · exact absurd (this.2 (.inr h2)) hy
              | false =>
                go_wp2
                go_meet
                refine ⟨i, [], R, v, rfl, by omega, HG.out.chg.trans (T := fun _ => False) (by repeat (first | with_reducible exact Chg.refl _ _ | with_reducible assumption | with_reducible refine Chg.drewN ?_ _ | with_reducible refine Chg.drew ?_ | with_reducible refine Chg.alloc ?_ _ | with_reducible refine Chg.setCell ?_ (by first | (left; rfl) | (right; exact Nat.le_refl _) | (right; simp; done) | (right; omega) | (right; simp at *; omega) | (simp at *; omega)) _ | with_reducible refine Chg.trans ?_ (by with_reducible assumption) (by intro i hi hT; first | exact hT | exact False.elim hT | omega | (simp at *; omega)))) (fun _ _ h => h), b0, b1, bf, sz, HG.out.hA, HG.out.hi, rfl, by rw [HI.out]; rfl, HG.out.low, by omega, ?_, ?_⟩
                · intro q hq
                  have h1 := HQ.out q hq
                  have hne : q.1 ≠ x + n := fun e => by have := hd.2 ⟨q, hq, e⟩; cases this
                  omega
                · intro y; rw [List.append_nil]; exact HG.out.hm y
            case rest =>
              obtain ⟨j, mR, R0, v', rfl, hjL, HW⟩ := hcut
              have b0 := HW.out.b0
              have b1 := HW.out.b1
              have bf := HW.out.bf
              have sz := HW.out.sz
              have H7 := Lib.hid (H.out.chg HW.out.chg (fun _ _ h => h.elim) id)
              have c2 : wc.cell? ⟨b, 2, none⟩ = some (.slice (some adr) L c) := by have h1 := H7.out.c2; have h3 : (A ++ R).length = L := (by rw [List.length_append]; exact HLen.out.symm); rw [h3] at h1; exact h1
              have fz := H7.out.fz
              have lbc := cell_lt c2
              have hlow := HW.out.pos
              clear hd hw
              have hfin := Lib.hid (give_final (x := x) (n := n) (e := (u, v')) HN.out HW.out.hA HW.out.hR HW.out.low hlow.2.1 hlow.2.2 HW.out.high HW.out.hm)
              have e1 : A ++ R = A0 ++ ((mL ++ mR) ++ R0) := by rw [HW.out.hA, HW.out.hR]; simp
              have lenR : Hid (L = j + R0.length) := by show L = _; have h1 := HLen.out; have h2 := HW.out.hj; have h3 := congrArg List.length HW.out.hR; rw [List.length_append] at h3; omega
              have hj2 : (A0 ++ (mL ++ mR)).length = j := by have h2 := HW.out.hj; have h3 := congrArg List.length HW.out.hA; rw [List.length_append] at h3; simp; omega
              have hi2 := Lib.hid HW.out.hi
              have LN := Lib.hid (rfl : (A0 ++ (u, v') :: R0).length = (A0 ++ (u, v') :: R0).length)
              obtain ⟨g, o, rfl⟩ := H7.out.rd.adr adr rfl
              have H8 := H7.out.rd
              rw [e1] at H8
              have RI0 := IsE.init H8
              rw [← HW.out.hi] at RI0
              have RI := Lib.hid RI0
              clear RI0
              have RX := Lib.hid (IsE.rest (A := A0 ++ (mL ++ mR)) (R := R0) (w := wc) (by rw [List.append_assoc]; exact H8) j hj2).undrew
              clear H8 e1 hj2
              have l3 : (i0 : Int) ≤ c := by omega
              have l4 : (0 : Int) ≤ i0 := by omega
              have l5 : (j : Int) ≤ L := by omega
              have l6 : (0 : Int) ≤ j := by omega
              go_wp2_with fail
              have FIN : Hid (∀ (w5 w4 : World) (a4 : Option Addr) (c4 : Nat), wc.heap.size ≤ w5.heap.size → Chg (fun _ => False) wc w4 → RdS w4 2 a4 (A0 ++ (u, v') :: R0).length c4 (flat A0 ++ (flat [(u, v')] ++ flat R0)) →
                  (∀ q, (Value.slice a4 (A0 ++ (u, v') :: R0).length c4).ownBlock = some q → (Value.slice (some ⟨g, o, none⟩) i0 i0).ownBlock = some q ∨ w5.heap.size ≤ q ∧ q < w4.heap.size) →
                  (∃ gs, (∃ a' c', Em (w4.setCell ⟨b, 2, none⟩ (.slice a4 (A0.length + (R0.length + 1)) c4)) S b base sec a' c' gs) ∧ ∀ y, Mem y gs ↔ Mem y (A ++ R) ∨ inE y (x, n)) ∧ Chg (fun k => k = b) w (w4.setCell ⟨b, 2, none⟩ (.slice a4 (A0.length + (R0.length + 1)) c4))) := by
                intro w5 w4 a4 c4 h5 j4 rd4 hown4
                have hp := H7.out.put (a' := a4) (c' := c4) j4 (fun k hk => id) (by show RdS _ _ _ _ _ _; rw [flat_append]; exact rd4) (fun q hq => by
                  rcases hown4 q hq with h | h
                  · exact .inl h
                  · right; exact ⟨by omega, h.2⟩) hfin.out.1
                have hl : (A0 ++ (u, v') :: R0).length = A0.length + (R0.length + 1) := by rw [List.length_append, List.length_cons]
                rw [hl] at hp
                exact ⟨⟨_, ⟨a4, c4, hp.1⟩, hfin.out.2⟩, (HW.out.chg.mono (T := fun k => k = b) (fun _ _ h => h.elim)).trans hp.2 (fun _ _ h => h)⟩
              have hN : i0 + (1 + (L - j)) = (A0 ++ (u, v') :: R0).length := by have h1 := lenR.out; have h2 := hi2.out; rw [List.length_append, List.length_cons]; omega
              go_region_law (first
                | (refine step_full (by rfl) _ _ 36 (by rfl) 44 ie _ 2 16 Try.underlying36 hie ez0 ez1 ez2 rfl (by decide) (by rfl) (by rfl) (rd_cells (u := u) (v := v') (by go_simp) (by go_simp)) (by exact (RdS.block RX.out (S := fun _ => False) (by repeat (first | with_reducible exact Chg.refl _ _ | with_reducible assumption | with_reducible refine Chg.drewN ?_ _ | with_reducible refine Chg.drew ?_ | with_reducible refine Chg.alloc ?_ _ | with_reducible refine Chg.setCell ?_ (by first | (left; rfl) | (right; exact Nat.le_refl _) | (right; simp; done) | (right; omega) | (right; simp at *; omega) | (simp at *; omega)) _ | with_reducible refine Chg.trans ?_ (by with_reducible assumption) (by intro i hi hT; first | exact hT | exact False.elim hT | omega | (simp at *; omega)))) (fun _ _ h => h)).cast (by have := lenR.out; omega)) (by unfold maxLen; omega) (by omega) ?_; intro a3 c3 w3 ho3 hg3 hown3; have s3 := hg3.size; simp at s3; have f1 : w3.cell? ⟨b, 2, none⟩ = some (.slice (some ⟨g, o, none⟩) L c) := (by rw [hg3.cell_far _ (by simp; omega) (by simp)]; go_simp); have f2 : w3.frozen? ⟨b, 2, none⟩ = false := (by rw [hg3.frozen_far _ (by simp; omega) (by simp)]; go_simp); have j3 : Chg (fun _ => False) wc w3 := Chg.grown (by repeat (first | with_reducible exact Chg.refl _ _ | with_reducible assumption | with_reducible refine Chg.drewN ?_ _ | with_reducible refine Chg.drew ?_ | with_reducible refine Chg.alloc ?_ _ | with_reducible refine Chg.setCell ?_ (by first | (left; rfl) | (right; exact Nat.le_refl _) | (right; simp; done) | (right; omega) | (right; simp at *; omega) | (simp at *; omega)) _ | with_reducible refine Chg.trans ?_ (by with_reducible assumption) (by intro i hi hT; first | exact hT | exact False.elim hT | omega | (simp at *; omega)))) hg3 (by simp))
                | (refine step_full (by rfl) _ _ 36 (by rfl) 44 ie _ 2 16 Try.underlying36 hie ez0 ez1 ez2 rfl (by decide) (by rfl) (by rfl) (RdS.block RI.out (S := fun _ => False) j3 (fun _ _ h => h)) ho3 (by unfold maxLen; omega) (by omega) ?_; intro a4 c4 w4 rd4 hg4 hown4; rw [hN] at rd4 hown4 ⊢; have s4 := hg4.size; have f3 : w4.cell? ⟨b, 2, none⟩ = some (.slice (some ⟨g, o, none⟩) L c) := (by rw [hg4.cell_far _ (by simp; omega) (by simp)]; exact f1); have f4 : w4.frozen? ⟨b, 2, none⟩ = false := (by rw [hg4.frozen_far _ (by simp; omega) (by simp)]; exact f2); have j4 : Chg (fun _ => False) wc w4 := Chg.grown j3 hg4 (by simp)))
              all_goals go_wp2
              all_goals go_ret
              all_goals exact .inl ⟨HNO.out, rfl, FIN.out w3 w4 a4 c4 j3.size j4 rd4 hown4⟩
end Go.Proofs.Ytheiodnckjmieaa
