/- The map of extents: Claim, Used, Left, Free. -/
import Derived.Test.YtheiodnckjmieaaEk
namespace Go.Proofs.Ytheiodnckjmieaa
set_option linter.unusedVariables false
open Go.RowKit

theorem Em.ours {w : World} {S : Nat → Prop} {b : Nat} {base sec : Int} {a : Option Addr} {c : Nat} {fs : List Ext} (h : Em w S b base sec a c fs) (x n : Int) (hx : -9223372036854775808 ≤ x ∧ x ≤ 9223372036854775807) (hn : -9223372036854775808 ≤ n ∧ n ≤ 9223372036854775807) :
    Calls Try.prog 30 #[.pointer (some ⟨b, 0, none⟩), .agg #[.int .i64 x, .int .i64 n]] w fun e w' => e = .returned (.bool (oursB base sec x n)) ∧ Below w.heap.size w w' :=
  ours_any b base sec x n w h.c0 h.c1 hx hn (by have := h.bd; omega) (by have := h.bd; omega)

set_option maxHeartbeats 1000000 in
theorem claim_not (w : World) (S : Nat → Prop) (b : Nat) (base sec : Int) (a : Option Addr) (c : Nat) (fs : List Ext) (x n : Int) (h : Em w S b base sec a c fs) (hx : -9223372036854775808 ≤ x ∧ x ≤ 9223372036854775807) (hn : -9223372036854775808 ≤ n ∧ n ≤ 9223372036854775807) (ho : oursB base sec x n = false) :
    Calls Try.prog 24 #[.pointer (some ⟨b, 0, none⟩), .agg #[.int .i64 x, .int .i64 n]] w fun e w' => e = .returned (.int .i64 1) ∧ Below w.heap.size w w' := by
  have H := Lib.hid h
  clear h
  go_enter Try.func24, Try.ntmps24
  go_wp2_with fail
  refine name_calls ?_; intro W hW
  have gW : Chg (fun _ => False) w W := by subst hW; exact (by repeat (first | with_reducible exact Chg.refl _ _ | with_reducible assumption | with_reducible refine Chg.drewN ?_ _ | with_reducible refine Chg.drew ?_ | with_reducible refine Chg.alloc ?_ _ | with_reducible refine Chg.setCell ?_ (by first | (left; rfl) | (right; exact Nat.le_refl _) | (right; simp; done) | (right; omega) | (right; simp at *; omega) | (simp at *; omega)) _ | with_reducible refine Chg.trans ?_ (by with_reducible assumption) (by intro i hi hT; first | exact hT | exact False.elim hT | omega | (simp at *; omega))))
  clear hW
  refine ((H.out.chg gW (fun _ _ h => h.elim) id).ours x n hx hn).mono ?_; rintro e w2 ⟨rfl, g2⟩
  rw [ho]
  go_wp2
  go_ret
  exact ⟨rfl, Chg.below (gW.trans (Chg.ofBelow g2) (fun _ _ h => h))⟩

theorem ours_iff {base sec x n : Int} (h : oursB base sec x n = true) : 1 ≤ n ∧ base ≤ x ∧ x + n ≤ base + sec := by
  simp [oursB] at h; omega

set_option maxHeartbeats 2000000 in
theorem claim_list (w : World) (S : Nat → Prop) (b : Nat) (base sec : Int) (a : Option Addr) (c : Nat) (fs : List Ext) (x n : Int) (h : Em w S b base sec a c fs) (hx : -9223372036854775808 ≤ x ∧ x ≤ 9223372036854775807) (hn : -9223372036854775808 ≤ n ∧ n ≤ 9223372036854775807) (ho : oursB base sec x n = true) :
    Calls Try.prog 24 #[.pointer (some ⟨b, 0, none⟩), .agg #[.int .i64 x, .int .i64 n]] w fun e w' =>
      ((∀ y, inE y (x, n) → Mem y fs) ∧ e = .returned (.int .i64 0) ∧ (∃ gs a' c', Em w' S b base sec a' c' gs ∧ ∀ y, Mem y gs ↔ Mem y fs ∧ ¬ inE y (x, n)) ∧ Chg (fun k => k = b) w w') ∨
      (¬ (∀ y, inE y (x, n) → Mem y fs) ∧ e = .returned (.int .i64 7) ∧ Below w.heap.size w w') := by
  have lb := cell_lt h.c0
  have few := h.few
  have hbd := h.bd
  have hoi := ours_iff ho
  have H := Lib.hid h
  clear h
  go_enter Try.func24, Try.ntmps24
  go_wp2_with fail
  refine name_calls ?_; intro W hW
  have gW : Chg (fun _ => False) w W := by subst hW; exact (by repeat (first | with_reducible exact Chg.refl _ _ | with_reducible assumption | with_reducible refine Chg.drewN ?_ _ | with_reducible refine Chg.drew ?_ | with_reducible refine Chg.alloc ?_ _ | with_reducible refine Chg.setCell ?_ (by first | (left; rfl) | (right; exact Nat.le_refl _) | (right; simp; done) | (right; omega) | (right; simp at *; omega) | (simp at *; omega)) _ | with_reducible refine Chg.trans ?_ (by with_reducible assumption) (by intro i hi hT; first | exact hT | exact False.elim hT | omega | (simp at *; omega))))
  have x0 : W.cell? ⟨w.heap.size, 0, none⟩ = some (.int .i64 x) := by subst hW; go_simp
  have x1 : W.cell? ⟨w.heap.size, 1, none⟩ = some (.int .i64 n) := by subst hW; go_simp
  have z1 : w.heap.size < W.heap.size := by subst hW; simp
  clear hW
  refine ((H.out.chg gW (fun _ _ h => h.elim) id).ours x n hx hn).mono ?_; rintro e w2 ⟨rfl, g2⟩
  rw [ho]
  have g2' := Chg.ofBelow (S := fun _ => False) g2
  have g3 := gW.trans g2' (fun _ _ h => h)
  have y0 : w2.cell? ⟨w.heap.size, 0, none⟩ = some (.int .i64 x) := by rw [g2'.cell z1 id]; exact x0
  have y1 : w2.cell? ⟨w.heap.size, 1, none⟩ = some (.int .i64 n) := by rw [g2'.cell z1 id]; exact x1
  have z2 : w.heap.size < w2.heap.size := Nat.lt_of_lt_of_le z1 g2.size
  clear g2 g2' gW x0 x1 z1 ho
  go_wp2_with fail
  have H2 := H.out.chg g3 (fun _ _ h => h.elim) id
  refine (meets_any w2 S b base sec a c fs x H2 hx).mono ?_; rintro e w3 ⟨⟨A, R, rfl, rfl, hA, hR⟩, g4⟩
  have g4' := Chg.ofBelow (S := fun _ => False) g4
  have g5 := Lib.hid (g3.trans g4' (fun _ _ h => h))
  have H3 := Lib.hid (H.out.chg g5.out (fun _ _ h => h.elim) id)
  have v0 : w3.cell? ⟨w.heap.size, 0, none⟩ = some (.int .i64 x) := by rw [g4'.cell z2 id]; exact y0
  have v1 : w3.cell? ⟨w.heap.size, 1, none⟩ = some (.int .i64 n) := by rw [g4'.cell z2 id]; exact y1
  have z3 : w.heap.size < w3.heap.size := Nat.lt_of_lt_of_le z2 g4.size
  obtain ⟨L, hL⟩ : ∃ L, L = (A ++ R).length := ⟨_, rfl⟩
  have c2 : w3.cell? ⟨b, 2, none⟩ = some (.slice a L c) := by rw [hL]; exact H3.out.c2
  have HA := Lib.hid hA
  have HR := Lib.hid hR
  have hLen : L = A.length + R.length := by rw [hL]; simp
  have few2 : L ≤ 1048576 := by omega
  clear g3 g4 g4' y0 y1 z2 H2 hA hR few hL
  have HL : Hid (∀ y, inE y (x, n) → Mem y (A ++ R) → Mem y R) := fun y hy hm => by
    rcases mem_append.1 hm with h | h
    · obtain ⟨f, hf, hyf⟩ := h
      have := HA.out f hf
      unfold inE at hy hyf
      omega
    · exact h
  cases R with
  | nil =>
    have q0 : ((A.length : Int) == (L : Int)) = true := by simp at hLen ⊢; omega
    clear hLen
    go_wp2_with fail
    go_quiet (fail)
    go_wp2
    go_ret
    refine .inr ⟨fun hh => ?_, rfl, Chg.below (g5.out.trans (by repeat (first | with_reducible exact Chg.refl _ _ | with_reducible assumption | with_reducible refine Chg.drewN ?_ _ | with_reducible refine Chg.drew ?_ | with_reducible refine Chg.alloc ?_ _ | with_reducible refine Chg.setCell ?_ (by first | (left; rfl) | (right; exact Nat.le_refl _) | (right; simp; done) | (right; omega) | (right; simp at *; omega) | (simp at *; omega)) _ | with_reducible refine Chg.trans ?_ (by with_reducible assumption) (by intro i hi hT; first | exact hT | exact False.elim hT | omega | (simp at *; omega)))) (fun _ _ h => h))⟩
    have hi : inE x (x, n) := ⟨Int.le_refl _, by show x < x + n; omega⟩
    exact mem_nil x (HL.out x hi (hh x hi))
  | cons q R' =>
    have q0 : ((A.length : Int) == (L : Int)) = false := by simp at hLen ⊢; omega
    have hlt : (A.length : Int) < L := by simp at hLen; omega
    have hat : (A ++ q :: R')[A.length]? = some q := by simp
    obtain ⟨g, o, rfl, lg, k0, k1⟩ := H3.out.rd.at hat
    have hb := H3.out.each (List.mem_of_getElem? hat)
    clear hat hLen
    by_cases p1 : x < q.1
    · go_wp2_with fail
      go_quiet (fail)
      go_wp2
      go_ret
      refine .inr ⟨fun hh => ?_, rfl, Chg.below (g5.out.trans (by repeat (first | with_reducible exact Chg.refl _ _ | with_reducible assumption | with_reducible refine Chg.drewN ?_ _ | with_reducible refine Chg.drew ?_ | with_reducible refine Chg.alloc ?_ _ | with_reducible refine Chg.setCell ?_ (by first | (left; rfl) | (right; exact Nat.le_refl _) | (right; simp; done) | (right; omega) | (right; simp at *; omega) | (simp at *; omega)) _ | with_reducible refine Chg.trans ?_ (by with_reducible assumption) (by intro i hi hT; first | exact hT | exact False.elim hT | omega | (simp at *; omega)))) (fun _ _ h => h))⟩
      have hi : inE x (x, n) := ⟨Int.le_refl _, by show x < x + n; omega⟩
      have hn2 := (norm_app.1 H.out.norm).2
      rcases mem_cons.1 (HL.out x hi (hh x hi)) with h | h
      · unfold inE at h; omega
      · have := hn2.2.2.2.mem h; omega
    · have p1' : decide (x < q.1) = false := by simp; omega
      by_cases p2 : q.1 + q.2 < x + n
      · go_wp2_with fail
        go_quiet (fail)
        go_wp2
        go_ret
        refine .inr ⟨fun hh => ?_, rfl, Chg.below (g5.out.trans (by repeat (first | with_reducible exact Chg.refl _ _ | with_reducible assumption | with_reducible refine Chg.drewN ?_ _ | with_reducible refine Chg.drew ?_ | with_reducible refine Chg.alloc ?_ _ | with_reducible refine Chg.setCell ?_ (by first | (left; rfl) | (right; exact Nat.le_refl _) | (right; simp; done) | (right; omega) | (right; simp at *; omega) | (simp at *; omega)) _ | with_reducible refine Chg.trans ?_ (by with_reducible assumption) (by intro i hi hT; first | exact hT | exact False.elim hT | omega | (simp at *; omega)))) (fun _ _ h => h))⟩
        have hq := HR.out q (by simp)
        have hi : inE (q.1 + q.2) (x, n) := ⟨by show x ≤ _; omega, by show _ < x + n; omega⟩
        have hn2 := (norm_app.1 H.out.norm).2
        rcases mem_cons.1 (HL.out _ hi (hh _ hi)) with h | h
        · unfold inE at h; omega
        · have := hn2.2.2.2.mem h; omega
      · have p2' : decide (q.1 + q.2 < x + n) = false := by simp; omega
        go_wp2_with fail
        go_quiet (fail)
        go_wp2_with fail
        have g6 : Chg (fun _ => False) w (w3.drewN nq) := g5.out.trans (by repeat (first | with_reducible exact Chg.refl _ _ | with_reducible assumption | with_reducible refine Chg.drewN ?_ _ | with_reducible refine Chg.drew ?_ | with_reducible refine Chg.alloc ?_ _ | with_reducible refine Chg.setCell ?_ (by first | (left; rfl) | (right; exact Nat.le_refl _) | (right; simp; done) | (right; omega) | (right; simp at *; omega) | (simp at *; omega)) _ | with_reducible refine Chg.trans ?_ (by with_reducible assumption) (by intro i hi hT; first | exact hT | exact False.elim hT | omega | (simp at *; omega)))) (fun _ _ h => h)
        have ht := take_any (w3.drewN nq) S b base sec _ c A q R' (x, n) (H.out.chg g6 (fun _ _ h => h.elim) id) p1 hoi.1 p2
        refine ht.mono ?_; rintro e w4 ⟨rfl, ⟨a4, c4, hE⟩, g4⟩
        have HE := Lib.hid hE
        clear hE ht
        go_wp2
        go_ret
        refine .inl ⟨fun y hy => mem_append.2 (.inr (mem_cons.2 (.inl ?_))), rfl, ⟨_, _, _, HE.out, (take_norm H.out.norm p1 hoi.1 p2).2⟩, (g6.mono (fun _ _ h => h.elim)).trans g4 (fun _ _ h => h)⟩
        unfold inE at hy ⊢
        have := hy.1
        have := hy.2
        simp only at *
        omega

set_option maxHeartbeats 1000000 in
theorem used_list (w : World) (S : Nat → Prop) (b : Nat) (base sec : Int) (a : Option Addr) (c : Nat) (fs : List Ext) (n : Int) (h : Em w S b base sec a c fs) (hn : -9223372036854775808 ≤ n ∧ n ≤ 9223372036854775807) :
    Calls Try.prog 20 #[.pointer (some ⟨b, 0, none⟩), .int .i64 n] w fun e w' => (∃ r, e = .returned (.bool r) ∧ (r = true ↔ base ≤ n ∧ n < base + sec ∧ ¬ Mem n fs)) ∧ Below w.heap.size w w' := by
  have lb := cell_lt h.c0
  have few := h.few
  have hbd := h.bd
  have c0 := h.c0
  have c1 := h.c1
  have H := Lib.hid h
  clear h
  by_cases p1 : n < base
  · go_enter Try.func20, Try.ntmps20
    go_wp2
    go_quiet (fail)
    go_wp2
    go_ret
    exact ⟨⟨_, rfl, by simp; omega⟩, (by repeat (first | with_reducible exact Below.refl _ _ | with_reducible assumption | with_reducible refine below_drewN ?_ _ | with_reducible refine Below.drew ?_ | with_reducible refine Below.alloc ?_ (by first | exact Nat.le_refl _ | assumption | (simp; done) | omega | (simp at *; omega)) _ | with_reducible refine Below.setCell ?_ (by first | exact Nat.le_refl _ | assumption | (simp; done) | omega | (simp at *; omega)) _ | with_reducible refine Below.trans ?_ (Below.mono (by with_reducible assumption) (by first | exact Nat.le_refl _ | assumption | (simp; done) | omega | (simp at *; omega)))))⟩
  · have p1' : decide (n < base) = false := by simp; omega
    by_cases p2 : base + sec ≤ n
    · go_enter Try.func20, Try.ntmps20
      go_wp2
      go_quiet (fail)
      go_wp2
      go_ret
      exact ⟨⟨_, rfl, by simp; omega⟩, (by repeat (first | with_reducible exact Below.refl _ _ | with_reducible assumption | with_reducible refine below_drewN ?_ _ | with_reducible refine Below.drew ?_ | with_reducible refine Below.alloc ?_ (by first | exact Nat.le_refl _ | assumption | (simp; done) | omega | (simp at *; omega)) _ | with_reducible refine Below.setCell ?_ (by first | exact Nat.le_refl _ | assumption | (simp; done) | omega | (simp at *; omega)) _ | with_reducible refine Below.trans ?_ (Below.mono (by with_reducible assumption) (by first | exact Nat.le_refl _ | assumption | (simp; done) | omega | (simp at *; omega)))))⟩
    · have p2' : decide (base + sec ≤ n) = false := by simp; omega
      go_enter Try.func20, Try.ntmps20
      go_wp2
      go_quiet (fail)
      go_wp2_with fail
      refine (meets_any _ S b base sec a c fs n (H.out.chg (T := fun _ => False) (by repeat (first | with_reducible exact Chg.refl _ _ | with_reducible assumption | with_reducible refine Chg.drewN ?_ _ | with_reducible refine Chg.drew ?_ | with_reducible refine Chg.alloc ?_ _ | with_reducible refine Chg.setCell ?_ (by first | (left; rfl) | (right; exact Nat.le_refl _) | (right; simp; done) | (right; omega) | (right; simp at *; omega) | (simp at *; omega)) _ | with_reducible refine Chg.trans ?_ (by with_reducible assumption) (by intro i hi hT; first | exact hT | exact False.elim hT | omega | (simp at *; omega)))) (fun _ _ h => h.elim) id) hn).mono ?_; rintro e w3 ⟨⟨A, R, rfl, rfl, hA, hR⟩, g4⟩
      have g4' := Chg.ofBelow (S := fun _ => False) g4
      have g5 : Hid (Chg (fun _ => False) w w3) := Chg.trans (T := fun _ => False) (b := w.drewN nq) (by repeat (first | with_reducible exact Chg.refl _ _ | with_reducible assumption | with_reducible refine Chg.drewN ?_ _ | with_reducible refine Chg.drew ?_ | with_reducible refine Chg.alloc ?_ _ | with_reducible refine Chg.setCell ?_ (by first | (left; rfl) | (right; exact Nat.le_refl _) | (right; simp; done) | (right; omega) | (right; simp at *; omega) | (simp at *; omega)) _ | with_reducible refine Chg.trans ?_ (by with_reducible assumption) (by intro i hi hT; first | exact hT | exact False.elim hT | omega | (simp at *; omega)))) g4' (fun _ _ h => h)
      have H3 := Lib.hid (H.out.chg g5.out (fun _ _ h => h.elim) id)
      obtain ⟨L, hL⟩ : ∃ L, L = (A ++ R).length := ⟨_, rfl⟩
      have c2 : w3.cell? ⟨b, 2, none⟩ = some (.slice a L c) := by rw [hL]; exact H3.out.c2
      have HA := Lib.hid hA
      have HR := Lib.hid hR
      have hLen : L = A.length + R.length := by rw [hL]; simp
      have few2 : L ≤ 1048576 := by omega
      clear g4 g4' hA hR few hL
      have HL : Hid (Mem n (A ++ R) → Mem n R) := fun hm => by
        rcases mem_append.1 hm with h | h
        · obtain ⟨f, hf, hyf⟩ := h
          have := HA.out f hf
          unfold inE at hyf
          omega
        · exact h
      cases R with
      | nil =>
        have q0 : ((A.length : Int) == (L : Int)) = true := by simp at hLen ⊢; omega
        clear hLen
        go_wp2
        go_ret
        exact ⟨⟨_, rfl, by simp; exact ⟨by omega, by omega, fun hm => mem_nil _ (HL.out (by simpa using hm))⟩⟩, Chg.below (g5.out.trans (by repeat (first | with_reducible exact Chg.refl _ _ | with_reducible assumption | with_reducible refine Chg.drewN ?_ _ | with_reducible refine Chg.drew ?_ | with_reducible refine Chg.alloc ?_ _ | with_reducible refine Chg.setCell ?_ (by first | (left; rfl) | (right; exact Nat.le_refl _) | (right; simp; done) | (right; omega) | (right; simp at *; omega) | (simp at *; omega)) _ | with_reducible refine Chg.trans ?_ (by with_reducible assumption) (by intro i hi hT; first | exact hT | exact False.elim hT | omega | (simp at *; omega)))) (fun _ _ h => h))⟩
      | cons q R' =>
        have q0 : ((A.length : Int) == (L : Int)) = false := by simp at hLen ⊢; omega
        have hlt : (A.length : Int) < L := by simp at hLen; omega
        have hat : (A ++ q :: R')[A.length]? = some q := by simp
        obtain ⟨g, o, rfl, lg, k0, k1⟩ := H3.out.rd.at hat
        have hb := H3.out.each (List.mem_of_getElem? hat)
        clear hat hLen
        have hq := HR.out q (by simp)
        go_wp2
        go_ret
        refine ⟨⟨_, rfl, ?_⟩, Chg.below (g5.out.trans (by repeat (first | with_reducible exact Chg.refl _ _ | with_reducible assumption | with_reducible refine Chg.drewN ?_ _ | with_reducible refine Chg.drew ?_ | with_reducible refine Chg.alloc ?_ _ | with_reducible refine Chg.setCell ?_ (by first | (left; rfl) | (right; exact Nat.le_refl _) | (right; simp; done) | (right; omega) | (right; simp at *; omega) | (simp at *; omega)) _ | with_reducible refine Chg.trans ?_ (by with_reducible assumption) (by intro i hi hT; first | exact hT | exact False.elim hT | omega | (simp at *; omega)))) (fun _ _ h => h))⟩
        have hn2 := (norm_app.1 H.out.norm).2
        simp only [decide_eq_true_eq]
        constructor
        · intro hlt2
          refine ⟨by omega, by omega, fun hm => ?_⟩
          rcases mem_cons.1 (HL.out hm) with h | h
          · unfold inE at h; omega
          · have := hn2.2.2.2.mem h; omega
        · rintro ⟨_, _, hm⟩
          have this : ¬ inE n q := fun h => hm (mem_append.2 (.inr (mem_cons.2 (.inl h))))
          unfold inE at this
          omega

def sumE : List Ext → Int
  | [] => 0
  | e :: r => e.2 + sumE r
theorem sumE_append (a b : List Ext) : sumE (a ++ b) = sumE a + sumE b := by
  induction a with
  | nil => simp [sumE]
  | cons e r ih => simp [sumE, ih]; omega
theorem sumE_snoc {l : List Ext} {k : Nat} {e : Ext} (h : l[k]? = some e) : sumE (l.take (k + 1)) = sumE (l.take k) + e.2 := by
  rw [List.take_add_one, h, sumE_append]
  simp [sumE]
theorem sumE_bd {hi : Int} : ∀ {fs : List Ext} {lo : Int}, Norm hi lo fs → lo ≤ hi + 1 → 0 ≤ sumE fs ∧ sumE fs ≤ hi + 1 - lo
  | [], _, _, h => by simp [sumE]; omega
  | e :: r, lo, h, _ => by
    have := sumE_bd h.2.2.2 (by have := h.2.2.1; omega)
    have := h.1; have := h.2.1
    simp only [sumE]; omega
theorem norm_take {hi lo : Int} {fs : List Ext} (h : Norm hi lo fs) (k : Nat) : Norm hi lo (fs.take k) := by
  have := (List.take_append_drop k fs).symm
  rw [this] at h
  exact (norm_append.1 h).1

set_option maxHeartbeats 1000000 in
theorem left_list (w : World) (S : Nat → Prop) (b : Nat) (base sec : Int) (a : Option Addr) (c : Nat) (fs : List Ext) (h : Em w S b base sec a c fs) :
    Calls Try.prog 18 #[.pointer (some ⟨b, 0, none⟩)] w fun e w' => e = .returned (.int .i64 (sumE fs)) ∧ Below w.heap.size w w' := by
  have few := h.few
  have d2 := h.c2
  have hbd := h.bd
  have H := Lib.hid h
  clear h
  go_enter Try.func18, Try.ntmps18
  go_wp2_with fail
  go_loopw [3, 13] (fun s i wr => ∃ k : Nat, k ≤ fs.length ∧ i = .int .i64 (↑k : Int) ∧ Hid (s = .int .i64 (sumE (fs.take k))) ∧ Hid (Chg (fun _ => False) w wr)) (fun _ i _ => fs.length - (intOf i).toNat)
  case atStart => exact ⟨0, by omega, rfl, rfl, Chg.refl _ _⟩
  case round =>
    obtain ⟨k, hk, rfl, HS, HG⟩ := hrel
    obtain ⟨s, hs⟩ : ∃ s, s = sumE (fs.take k) := ⟨_, rfl⟩
    have hs1 := sumE_bd (norm_take H.out.norm k) (by omega)
    rw [← hs] at hs1
    have HSS := Lib.hid hs
    have hs2 := HS.out
    rw [← hs] at hs2
    subst hs2
    clear hs HS
    by_cases hkt : k < fs.length
    · obtain ⟨f, hf⟩ : ∃ f, fs[k]? = some f := ⟨_, List.getElem?_eq_getElem hkt⟩
      have H2 := Lib.hid (H.out.chg HG.out (fun _ _ h => h.elim) id)
      obtain ⟨g, o, rfl, lg, k0, k1⟩ := H2.out.rd.at hf
      have hb := H2.out.each (List.mem_of_getElem? hf)
      have HF := Lib.hid (sumE_snoc hf)
      clear hf
      go_wp2
      go_roundw
      case rel => exact ⟨k + 1, by omega, by go_num, by rw [HF.out, ← HSS.out]; rfl, HG.out.trans (T := fun _ => False) (by repeat (first | with_reducible exact Chg.refl _ _ | with_reducible assumption | with_reducible refine Chg.drewN ?_ _ | with_reducible refine Chg.drew ?_ | with_reducible refine Chg.alloc ?_ _ | with_reducible refine Chg.setCell ?_ (by first | (left; rfl) | (right; exact Nat.le_refl _) | (right; simp; done) | (right; omega) | (right; simp at *; omega) | (simp at *; omega)) _ | with_reducible refine Chg.trans ?_ (by with_reducible assumption) (by intro i hi hT; first | exact hT | exact False.elim hT | omega | (simp at *; omega)))) (fun _ _ h => h)⟩
      case measure => simp [intOf]; omega
    · obtain rfl : k = fs.length := by omega
      go_wp2
      go_ret
      exact ⟨ret_int (by rw [HSS.out, List.take_length]), Chg.below HG.out⟩

set_option maxHeartbeats 1000000 in
theorem free_list (w : World) (S : Nat → Prop) (b : Nat) (base sec : Int) (a : Option Addr) (c : Nat) (fs : List Ext) (h : Em w S b base sec a c fs) :
    Calls Try.prog 16 #[.pointer (some ⟨b, 0, none⟩)] w fun e w' => (∃ a' c', e = .returned (.slice a' fs.length c') ∧ w'.ownsRow w.heap.size 44 2 (.slice a' fs.length c') fs.length (flat fs)) ∧ Below w.heap.size w w' := by
  obtain ⟨ie, hie, ez0, ez1, ez2⟩ := info_parts infoExt
  have few := h.few
  have d2 := h.c2
  have H := Lib.hid h
  clear h
  go_enter Try.func16, Try.ntmps16
  go_wp2_with (at_builtin; refine list_owned rfl _ _ 36 rfl w.heap.size 44 ie _ 2 16 Try.underlying36 hie ez0 ez1 ez2 rfl (by decide) rfl rfl (World.ownsRow_nil _ _ _ _) (by simp) H.out.rd (by unfold maxLen; omega) (by omega) (by simp) ?_; intro a1 c1 w1 ho1 hg1 hone1)
  go_ret
  rw [Nat.zero_add, List.nil_append] at ho1
  exact ⟨⟨a1, c1, by simp, ho1⟩, Chg.below (Chg.grown (Chg.refl _ _) hg1 (by simp [Value.ownBlock]))⟩
end Go.Proofs.Ytheiodnckjmieaa
