/- The map of extents: Take, Claim. -/
import Derived.Test.YtheiodnckjmieaaEt
namespace Go.Proofs.Ytheiodnckjmieaa
set_option linter.unusedVariables false
open Go.RowKit

set_option maxHeartbeats 1000000 in
theorem take_few (w : World) (S : Nat → Prop) (b : Nat) (n : Int) (hn : n < 1) :
    Calls Try.prog 22 #[.pointer (some ⟨b, 0, none⟩), .int .i64 n] w fun e w' => e = .returned (.tuple #[.agg #[.int .i64 0, .int .i64 0], .int .i64 1]) ∧ Below w.heap.size w w' := by
  go_enter Try.func22, Try.ntmps22
  go_wp2
  exact bodyPost_ret (v := .tuple #[.agg #[.int .i64 0, .int .i64 0], .int .i64 1]) (by simp [results, Try.results22, go_sem]) rfl ⟨rfl, (by repeat (first | with_reducible exact Below.refl _ _ | with_reducible assumption | with_reducible refine below_drewN ?_ _ | with_reducible refine Below.drew ?_ | with_reducible refine Below.alloc ?_ (by first | exact Nat.le_refl _ | assumption | (simp; done) | omega | (simp at *; omega)) _ | with_reducible refine Below.setCell ?_ (by first | exact Nat.le_refl _ | assumption | (simp; done) | omega | (simp at *; omega)) _ | with_reducible refine Below.trans ?_ (Below.mono (by with_reducible assumption) (by first | exact Nat.le_refl _ | assumption | (simp; done) | omega | (simp at *; omega)))))⟩

set_option maxHeartbeats 1000000 in
theorem take_list (w : World) (S : Nat → Prop) (b : Nat) (base sec : Int) (a : Option Addr) (c : Nat) (fs : List Ext) (n : Int) (h : Em w S b base sec a c fs) (hn : 1 ≤ n ∧ n ≤ 9223372036854775807) :
    Calls Try.prog 22 #[.pointer (some ⟨b, 0, none⟩), .int .i64 n] w fun e w' =>
      (∃ A f R, fs = A ++ f :: R ∧ (∀ x ∈ A, x.2 < n) ∧ n ≤ f.2 ∧ e = .returned (.tuple #[.agg #[.int .i64 f.1, .int .i64 n], .int .i64 0]) ∧ (∃ a' c', Em w' S b base sec a' c' (A ++ (leftF f (f.1, n) ++ R))) ∧ Chg (fun k => k = b) w w') ∨
      ((∀ f ∈ fs, f.2 < n) ∧ e = .returned (.tuple #[.agg #[.int .i64 0, .int .i64 0], .int .i64 5]) ∧ Below w.heap.size w w') := by
  have few := h.few
  have lb := cell_lt h.c0
  have d2 := h.c2
  have H := Lib.hid h
  clear h
  have hn' : ¬ n < 1 := by omega
  go_enter Try.func22, Try.ntmps22
  go_wp2_with fail
  refine name_region ?_; intro w1 hw1
  have r0 : w1.cell? ⟨w.heap.size, 0, none⟩ = some (.int .i64 0) := by subst hw1; go_simp
  have r1 : w1.cell? ⟨w.heap.size, 1, none⟩ = some (.int .i64 0) := by subst hw1; go_simp
  have rf : ∀ o, w1.frozen? ⟨w.heap.size, o, none⟩ = false := by subst hw1; intro o; go_simp
  have z1 : w.heap.size < w1.heap.size := by subst hw1; simp
  have g1 : Chg (fun _ => False) w w1 := by subst hw1; exact (by repeat (first | with_reducible exact Chg.refl _ _ | with_reducible assumption | with_reducible refine Chg.drewN ?_ _ | with_reducible refine Chg.drew ?_ | with_reducible refine Chg.alloc ?_ _ | with_reducible refine Chg.setCell ?_ (by first | (left; rfl) | (right; exact Nat.le_refl _) | (right; simp; done) | (right; omega) | (right; simp at *; omega) | (simp at *; omega)) _ | with_reducible refine Chg.trans ?_ (by with_reducible assumption) (by intro i hi hT; first | exact hT | exact False.elim hT | omega | (simp at *; omega))))
  clear hw1
  have H1 := Lib.hid (H.out.chg g1 (fun _ _ h => h.elim) id)
  go_loopw [21] (fun i wr => ∃ k : Nat, k ≤ fs.length ∧ i = .int .i64 (↑k : Int) ∧ Hid (∀ j f, fs[j]? = some f → j < k → f.2 < n) ∧ Hid (Chg (fun _ => False) w1 wr)) (fun i _ => fs.length - (intOf i).toNat)
  case atStart => exact ⟨0, by omega, rfl, fun j f _ hj => by omega, Chg.refl _ _⟩
  case round =>
    obtain ⟨k, hk, rfl, HN, HG⟩ := hrel
    have q0 : wr.cell? ⟨w.heap.size, 0, none⟩ = some (.int .i64 0) := by rw [HG.out.cell z1 id]; exact r0
    have q1 : wr.cell? ⟨w.heap.size, 1, none⟩ = some (.int .i64 0) := by rw [HG.out.cell z1 id]; exact r1
    have qf : ∀ o, wr.frozen? ⟨w.heap.size, o, none⟩ = false := fun o => by rw [HG.out.frozen z1 id]; exact rf o
    have z2 : w1.heap.size ≤ wr.heap.size := HG.out.size
    have z3 : w.heap.size < wr.heap.size := by omega
    by_cases hkt : k < fs.length
    · obtain ⟨f, hf⟩ : ∃ f, fs[k]? = some f := ⟨_, List.getElem?_eq_getElem hkt⟩
      have H2 := Lib.hid (H1.out.chg HG.out (fun _ _ h => h.elim) id)
      obtain ⟨g, o, rfl, lg, k0, k1⟩ := H2.out.rd.at hf
      have hb := H2.out.each (List.mem_of_getElem? hf)
      have HF := Lib.hid hf
      clear hf
      by_cases hc : n ≤ f.2
      · go_wp2_with fail
        refine name_calls ?_; intro W hW
        have gW : Chg (fun _ => False) wr W := by subst hW; exact (by repeat (first | with_reducible exact Chg.refl _ _ | with_reducible assumption | with_reducible refine Chg.drewN ?_ _ | with_reducible refine Chg.drew ?_ | with_reducible refine Chg.alloc ?_ _ | with_reducible refine Chg.setCell ?_ (by first | (left; rfl) | (right; exact Nat.le_refl _) | (right; simp; done) | (right; omega) | (right; simp at *; omega) | (simp at *; omega)) _ | with_reducible refine Chg.trans ?_ (by with_reducible assumption) (by intro i hi hT; first | exact hT | exact False.elim hT | omega | (simp at *; omega))))
        have t0 : W.cell? ⟨w.heap.size, 0, none⟩ = some (.int .i64 0) := by rw [gW.cell z3 id]; exact q0
        have t1 : W.cell? ⟨w.heap.size, 1, none⟩ = some (.int .i64 0) := by rw [gW.cell z3 id]; exact q1
        have tf : ∀ o, W.frozen? ⟨w.heap.size, o, none⟩ = false := fun o => by rw [gW.frozen z3 id]; exact qf o
        have x0 : W.cell? ⟨wr.heap.size + 1, 0, none⟩ = some (.int .i64 f.1) := by subst hW; go_simp
        have x1 : W.cell? ⟨wr.heap.size + 1, 1, none⟩ = some (.int .i64 n) := by subst hW; go_simp
        have zW : wr.heap.size + 1 < W.heap.size := by subst hW; simp
        clear hW
        have efs : fs = fs.take k ++ f :: fs.drop (k + 1) := by
          obtain ⟨hl, he⟩ := List.getElem?_eq_some_iff.1 HF.out
          rw [← he, List.getElem_cons_drop, List.take_append_drop]
        have H3 := H.out.widen ((g1.trans HG.out (fun _ _ h => h)).trans gW (fun _ _ h => h))
        rw [efs] at H3
        have hlk : (fs.take k).length = k := by rw [List.length_take]; omega
        have ht := take_any W _ b base sec _ c (fs.take k) f (fs.drop (k + 1)) (f.1, n) H3 (Int.le_refl _) hn.1 (by show f.1 + n ≤ f.1 + f.2; omega)
        rw [hlk] at ht
        refine ht.mono ?_; rintro e w3 ⟨rfl, hE, g3⟩
        have HE := Lib.hid hE
        have EF := Lib.hid efs
        have HLK := Lib.hid hlk
        clear hE ht H3 efs hlk
        have lb2 : b ≠ w.heap.size := by omega
        have lb3 : b ≠ wr.heap.size + 1 := by omega
        have y0 : w3.cell? ⟨w.heap.size, 0, none⟩ = some (.int .i64 0) := by rw [g3.cell (by omega) (by omega)]; exact t0
        have y1 : w3.cell? ⟨w.heap.size, 1, none⟩ = some (.int .i64 0) := by rw [g3.cell (by omega) (by omega)]; exact t1
        have yf : ∀ o, w3.frozen? ⟨w.heap.size, o, none⟩ = false := fun o => by rw [g3.frozen (by omega) (by omega)]; exact tf o
        have u0 : w3.cell? ⟨wr.heap.size + 1, 0, none⟩ = some (.int .i64 f.1) := by rw [g3.cell (by omega) (by omega)]; exact x0
        have u1 : w3.cell? ⟨wr.heap.size + 1, 1, none⟩ = some (.int .i64 n) := by rw [g3.cell (by omega) (by omega)]; exact x1
        go_wp2
        refine bodyPost_ret (v := .tuple #[.agg #[.int .i64 f.1, .int .i64 n], .int .i64 0]) (by simp [results, Try.results22, go_sem, *]) rfl (.inl ⟨_, f, _, EF.out, fun x hx => ?_, hc, rfl, ?_, ?_⟩)
        · obtain ⟨j, hj⟩ := List.getElem?_of_mem hx
          rw [List.getElem?_take] at hj
          by_cases hjk : j < k
          · rw [if_pos hjk] at hj; exact HN.out j x hj hjk
          · rw [if_neg hjk] at hj; cases hj
        · obtain ⟨a', c', hE⟩ := HE.out
          exact ⟨a', c', (hE.chg (T := fun q => q = w.heap.size) (by repeat (first | with_reducible exact Chg.refl _ _ | with_reducible assumption | with_reducible refine Chg.drewN ?_ _ | with_reducible refine Chg.drew ?_ | with_reducible refine Chg.alloc ?_ _ | with_reducible refine Chg.setCell ?_ (by first | (left; rfl) | (right; exact Nat.le_refl _) | (right; simp; done) | (right; omega) | (right; simp at *; omega) | (simp at *; omega)) _ | with_reducible refine Chg.trans ?_ (by with_reducible assumption) (by intro i hi hT; first | exact hT | exact False.elim hT | omega | (simp at *; omega)))) (fun q hq hT => .inr (by omega)) (by omega)).narrow (fun q hq => .inl hq) H.out.sb⟩
        · exact ((((g1.trans HG.out (fun _ _ h => h)).trans gW (fun _ _ h => h)).mono (T := fun q => q = b) (fun _ _ h => h.elim)).trans g3 (fun _ _ h => h)).trans (T := fun q => q = w.heap.size) (by repeat (first | with_reducible exact Chg.refl _ _ | with_reducible assumption | with_reducible refine Chg.drewN ?_ _ | with_reducible refine Chg.drew ?_ | with_reducible refine Chg.alloc ?_ _ | with_reducible refine Chg.setCell ?_ (by first | (left; rfl) | (right; exact Nat.le_refl _) | (right; simp; done) | (right; omega) | (right; simp at *; omega) | (simp at *; omega)) _ | with_reducible refine Chg.trans ?_ (by with_reducible assumption) (by intro i hi hT; first | exact hT | exact False.elim hT | omega | (simp at *; omega)))) (fun q hq h => by omega)
      · have hc' : decide (n ≤ f.2) = false := by simp; omega
        go_wp2
        go_roundw
        case rel => exact ⟨k + 1, by omega, by go_num, fun j f' hj hjk => by
          by_cases e : j = k
          · subst e; rw [HF.out] at hj; injection hj with hj; subst hj; omega
          · exact HN.out j f' hj (by omega), HG.out.trans (by repeat (first | with_reducible exact Chg.refl _ _ | with_reducible assumption | with_reducible refine Chg.drewN ?_ _ | with_reducible refine Chg.drew ?_ | with_reducible refine Chg.alloc ?_ _ | with_reducible refine Chg.setCell ?_ (by first | (left; rfl) | (right; exact Nat.le_refl _) | (right; simp; done) | (right; omega) | (right; simp at *; omega) | (simp at *; omega)) _ | with_reducible refine Chg.trans ?_ (by with_reducible assumption) (by intro i hi hT; first | exact hT | exact False.elim hT | omega | (simp at *; omega)))) (fun _ _ h => h)⟩
        case measure => simp [intOf]; omega
    · obtain rfl : k = fs.length := by omega
      go_wp2
      refine bodyPost_ret (v := .tuple #[.agg #[.int .i64 0, .int .i64 0], .int .i64 5]) (by simp [results, Try.results22, go_sem, *]) rfl (.inr ⟨fun f hf => ?_, rfl, ?_⟩)
      · obtain ⟨j, hj⟩ := List.getElem?_of_mem hf
        exact HN.out j f hj (List.getElem?_eq_some_iff.1 hj).1
      · exact Chg.below ((g1.trans HG.out (fun _ _ h => h)).trans (T := fun q => q = w.heap.size) (by repeat (first | with_reducible exact Chg.refl _ _ | with_reducible assumption | with_reducible refine Chg.drewN ?_ _ | with_reducible refine Chg.drew ?_ | with_reducible refine Chg.alloc ?_ _ | with_reducible refine Chg.setCell ?_ (by first | (left; rfl) | (right; exact Nat.le_refl _) | (right; simp; done) | (right; omega) | (right; simp at *; omega) | (simp at *; omega)) _ | with_reducible refine Chg.trans ?_ (by with_reducible assumption) (by intro i hi hT; first | exact hT | exact False.elim hT | omega | (simp at *; omega)))) (by intro q hq h; omega))
end Go.Proofs.Ytheiodnckjmieaa
