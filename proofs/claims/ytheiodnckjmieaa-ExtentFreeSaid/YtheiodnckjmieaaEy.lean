/- The reference's map: Take, New, Left, Used. -/
import Derived.Test.YtheiodnckjmieaaEx
namespace Go.Proofs.Ytheiodnckjmieaa
set_option linter.unusedVariables false
open Go.RowKit

section
variable (w : World) (S : Nat → Prop) (b : Nat) (base : Int) (a : Option Addr) (c : Nat) (F : List Bool) (n : Int)
set_option maxHeartbeats 1000000 in
theorem rtake_few (hn : n < 1) : Calls Try.prog 25 #[.pointer (some ⟨b, 0, none⟩), .int .i64 n] w fun e w' => e = .returned (.tuple #[.agg #[.int .i64 0, .int .i64 0], .int .i64 1]) ∧ Chg (fun _ => False) w w' := by
  go_enter Try.func25, Try.ntmps25
  go_wp2
  exact bodyPost_ret (v := .tuple #[.agg #[.int .i64 0, .int .i64 0], .int .i64 1]) (by simp [results, Try.results25, go_sem]) rfl ⟨rfl, (by repeat (first | with_reducible exact Chg.refl _ _ | with_reducible assumption | with_reducible refine Chg.drewN ?_ _ | with_reducible refine Chg.drew ?_ | with_reducible refine Chg.alloc ?_ _ | with_reducible refine Chg.setCell ?_ (by first | (left; rfl) | (right; exact Nat.le_refl _) | (right; simp; done) | (right; omega) | (right; simp at *; omega) | (simp at *; omega)) _ | with_reducible refine Chg.trans ?_ (by with_reducible assumption) (by intro i hi hT; first | exact hT | exact False.elim hT | omega | (simp at *; omega))))⟩

set_option maxHeartbeats 2000000 in
theorem rtake_any (h : Rm w S b base a c F) (hn : 1 ≤ n ∧ n ≤ 9223372036854775807) :
    Calls Try.prog 25 #[.pointer (some ⟨b, 0, none⟩), .int .i64 n] w fun e w' => e = .returned (.tuple #[.agg #[.int .i64 (takeX base F n).1, .int .i64 (takeX base F n).2], .int .i64 (takeC F n)]) ∧ (∃ a' c', Rm w' S b base a' c' (takeF F n)) ∧ Chg (fun k => k = b) w w' := by
  have lb := cell_lt h.c0
  have hbd := h.bd
  have d0 := h.c0
  have d1 := h.c1
  have H := Lib.hid h
  clear h
  obtain ⟨m, rfl⟩ : ∃ m : Nat, n = m := ⟨n.toNat, by omega⟩
  have hn' : ¬ (m : Int) < 1 := by omega
  have HX : Hid (takeX base F m = match takeP F m with | some p => (base + p, (m : Int)) | none => (0, 0)) := by show _ = _; rw [takeX, if_neg hn', Int.toNat_natCast]; cases takeP F m <;> rfl
  have HC : Hid (takeC F m = match takeP F m with | some _ => 0 | none => 5) := by show _ = _; rw [takeC, if_neg hn', Int.toNat_natCast]; cases takeP F m <;> rfl
  have HF : Hid (takeF F m = match takeP F m with | some p => setR F p m false | none => F) := by show _ = _; rw [takeF, if_neg hn', Int.toNat_natCast]; cases takeP F m <;> rfl
  go_enter Try.func25, Try.ntmps25
  go_wp2_with fail
  refine name_region ?_; intro w1 hw1
  have r0 : w1.cell? ⟨w.heap.size, 0, none⟩ = some (.int .i64 0) := by subst hw1; go_simp
  have r1 : w1.cell? ⟨w.heap.size, 1, none⟩ = some (.int .i64 0) := by subst hw1; go_simp
  have rf : ∀ o, w1.frozen? ⟨w.heap.size, o, none⟩ = false := by subst hw1; intro o; go_simp
  have z1 : w.heap.size < w1.heap.size := by subst hw1; simp
  have g1 : Chg (fun _ => False) w w1 := by subst hw1; exact (by repeat (first | with_reducible exact Chg.refl _ _ | with_reducible assumption | with_reducible refine Chg.drewN ?_ _ | with_reducible refine Chg.drew ?_ | with_reducible refine Chg.alloc ?_ _ | with_reducible refine Chg.setCell ?_ (by first | (left; rfl) | (right; exact Nat.le_refl _) | (right; simp; done) | (right; omega) | (right; simp at *; omega) | (simp at *; omega)) _ | with_reducible refine Chg.trans ?_ (by with_reducible assumption) (by intro i hi hT; first | exact hT | exact False.elim hT | omega | (simp at *; omega))))
  clear hw1
  go_loopw [6] (fun i wr => ∃ k : Nat, k ≤ F.length ∧ i = .int .i64 (↑k : Int) ∧ Hid (∀ q, q < k → fitsB F m q = false) ∧ Hid (Chg (fun _ => False) w1 wr)) (fun i _ => F.length - (intOf i).toNat)
  case atStart => exact ⟨0, by omega, rfl, fun j hj => by omega, Chg.refl _ _⟩
  case round =>
    obtain ⟨k, hk, rfl, HN, HG⟩ := hrel
    have q0 : wr.cell? ⟨w.heap.size, 0, none⟩ = some (.int .i64 0) := by rw [HG.out.cell z1 id]; exact r0
    have q1 : wr.cell? ⟨w.heap.size, 1, none⟩ = some (.int .i64 0) := by rw [HG.out.cell z1 id]; exact r1
    have qf : ∀ o, wr.frozen? ⟨w.heap.size, o, none⟩ = false := fun o => by rw [HG.out.frozen z1 id]; exact rf o
    have z2 : w1.heap.size ≤ wr.heap.size := HG.out.size
    have z3 : w.heap.size < wr.heap.size := by omega
    have g2 := g1.trans HG.out (fun _ _ h => h)
    have e0 : wr.cell? ⟨b, 0, none⟩ = some (.int .i64 base) := by rw [g2.cell lb id]; exact d0
    have e1 : wr.cell? ⟨b, 1, none⟩ = some (.slice a F.length c) := by rw [g2.cell lb id]; exact d1
    have G2 := Lib.hid g2
    clear g2
    by_cases hkt : k < F.length
    · go_wp2_with fail
      refine name_calls ?_; intro W hW
      have gW : Chg (fun _ => False) wr W := by subst hW; exact (by repeat (first | with_reducible exact Chg.refl _ _ | with_reducible assumption | with_reducible refine Chg.drewN ?_ _ | with_reducible refine Chg.drew ?_ | with_reducible refine Chg.alloc ?_ _ | with_reducible refine Chg.setCell ?_ (by first | (left; rfl) | (right; exact Nat.le_refl _) | (right; simp; done) | (right; omega) | (right; simp at *; omega) | (simp at *; omega)) _ | with_reducible refine Chg.trans ?_ (by with_reducible assumption) (by intro i hi hT; first | exact hT | exact False.elim hT | omega | (simp at *; omega))))
      have x0 : W.cell? ⟨wr.heap.size, 0, none⟩ = some (.int .i64 (base + k)) := by subst hW; go_simp
      have x1 : W.cell? ⟨wr.heap.size, 1, none⟩ = some (.int .i64 m) := by subst hW; go_simp
      have zW : wr.heap.size < W.heap.size := by subst hW; simp
      clear hW
      have GW := Lib.hid (G2.out.trans gW (fun _ _ h => h))
      refine (rin_any W S b base a c F (base + k) m (H.out.chg GW.out (fun _ _ h => h.elim) id) (by omega) (by omega)).mono ?_; rintro e w3 ⟨rfl, g3⟩
      have g3' := Chg.ofBelow (S := fun _ => False) g3
      have G3 := Lib.hid (GW.out.trans g3' (fun _ _ h => h))
      have G3r := Lib.hid (gW.trans g3' (fun _ _ h => h))
      have y0 : w3.cell? ⟨wr.heap.size, 0, none⟩ = some (.int .i64 (base + k)) := by rw [g3'.cell zW id]; exact x0
      have y1 : w3.cell? ⟨wr.heap.size, 1, none⟩ = some (.int .i64 m) := by rw [g3'.cell zW id]; exact x1
      have z4 : wr.heap.size < w3.heap.size := Nat.lt_of_lt_of_le zW g3.size
      clear g3 g3' gW x0 x1
      cases ho : oursB base F.length (base + k) m with
      | false =>
        have hf : Hid (fitsB F m k = false) := by
          show _ = _
          rw [fitsB]
          have : decide (k + m ≤ F.length) = false := by simp [oursB] at ho ⊢; omega
          rw [this]; rfl
        clear ho
        go_wp2
        go_roundw
        case rel => exact ⟨k + 1, by omega, by go_num, fun j hj => by
          by_cases e : j = k
          · subst e; exact hf.out
          · exact HN.out j (by omega), HG.out.trans G3r.out (fun _ _ h => h)⟩
        case measure => simp [intOf]; omega
      | true =>
        have hoi := ours_iff ho
        have hpl : k + m ≤ F.length := by omega
        clear ho
        go_wp2_with fail
        refine (rall_any w3 S b base a c F (base + k) k m true (H.out.chg G3.out (fun _ _ h => h.elim) id) rfl hpl).mono ?_; rintro e w5 ⟨rfl, g5⟩
        have g5' := Chg.ofBelow (S := fun _ => False) g5
        have G5 := Lib.hid (G3.out.trans g5' (fun _ _ h => h))
        have G5r := Lib.hid (G3r.out.trans g5' (fun _ _ h => h))
        have v0 : w5.cell? ⟨wr.heap.size, 0, none⟩ = some (.int .i64 (base + k)) := by rw [g5'.cell z4 id]; exact y0
        have v1 : w5.cell? ⟨wr.heap.size, 1, none⟩ = some (.int .i64 m) := by rw [g5'.cell z4 id]; exact y1
        have z5 : wr.heap.size < w5.heap.size := Nat.lt_of_lt_of_le z4 g5.size
        have hfit : fitsB F m k = allF F k m true := by rw [fitsB, decide_eq_true hpl]; rfl
        have HFIT := Lib.hid hfit
        clear g5 g5' y0 y1 hfit
        cases hall : allF F k m true with
        | false =>
          have HALL := Lib.hid hall
          clear hall
          go_wp2
          go_roundw
          case rel => exact ⟨k + 1, by omega, by go_num, fun j hj => by
            by_cases e : j = k
            · subst e; rw [HFIT.out]; exact HALL.out
            · exact HN.out j (by omega), HG.out.trans G5r.out (fun _ _ h => h)⟩
          case measure => simp [intOf]; omega
        | true =>
          have HT : Hid (takeP F m = some k) := takeP_some hkt (by rw [HFIT.out]; exact hall) HN.out
          clear hall
          go_wp2_with fail
          refine (rturn_any w5 _ b base a c F (base + k) k m false (H.out.widen G5.out) rfl hpl (by omega)).mono ?_; rintro e w6 ⟨rfl, ⟨a6, c6, hR⟩, g6⟩
          have HR := Lib.hid hR
          have bw : b ≠ w.heap.size := by omega
          have bw2 : b ≠ wr.heap.size := by omega
          have t0 : w6.cell? ⟨wr.heap.size, 0, none⟩ = some (.int .i64 (base + k)) := by rw [g6.cell z5 (by omega)]; exact v0
          have t1 : w6.cell? ⟨wr.heap.size, 1, none⟩ = some (.int .i64 m) := by rw [g6.cell z5 (by omega)]; exact v1
          have s0 : w6.cell? ⟨w.heap.size, 0, none⟩ = some (.int .i64 0) := by rw [g6.cell (by omega) (by omega), G5r.out.cell z3 id]; exact q0
          have s1 : w6.cell? ⟨w.heap.size, 1, none⟩ = some (.int .i64 0) := by rw [g6.cell (by omega) (by omega), G5r.out.cell z3 id]; exact q1
          have sf : ∀ o, w6.frozen? ⟨w.heap.size, o, none⟩ = false := fun o => by rw [g6.frozen (by omega) (by omega), G5r.out.frozen z3 id]; exact qf o
          have z6 := g6.size
          have G6 := Lib.hid g6
          clear hR g6 q0 q1 qf v0 v1 r0 r1 rf
          go_wp2
          refine bodyPost_ret (v := .tuple #[.agg #[.int .i64 (base + k), .int .i64 m], .int .i64 0]) (by simp [results, Try.results25, go_sem, *]) rfl ⟨?_, ⟨a6, c6, ?_⟩, ?_⟩
          · rw [HX.out, HC.out, HT.out]
          · rw [HF.out, HT.out]
            exact (HR.out.chg (T := fun q => q = w.heap.size) (by repeat (first | with_reducible exact Chg.refl _ _ | with_reducible assumption | with_reducible refine Chg.drewN ?_ _ | with_reducible refine Chg.drew ?_ | with_reducible refine Chg.alloc ?_ _ | with_reducible refine Chg.setCell ?_ (by first | (left; rfl) | (right; exact Nat.le_refl _) | (right; simp; done) | (right; omega) | (right; simp at *; omega) | (simp at *; omega)) _ | with_reducible refine Chg.trans ?_ (by with_reducible assumption) (by intro i hi hT; first | exact hT | exact False.elim hT | omega | (simp at *; omega)))) (fun q hq hT => .inr (by omega)) (by omega)).narrow (fun q hq => .inl hq) H.out.sb
          · exact ((G5.out.mono (T := fun q => q = b) (fun _ _ h => h.elim)).trans G6.out (fun _ _ h => h)).trans (T := fun q => q = w.heap.size) (by repeat (first | with_reducible exact Chg.refl _ _ | with_reducible assumption | with_reducible refine Chg.drewN ?_ _ | with_reducible refine Chg.drew ?_ | with_reducible refine Chg.alloc ?_ _ | with_reducible refine Chg.setCell ?_ (by first | (left; rfl) | (right; exact Nat.le_refl _) | (right; simp; done) | (right; omega) | (right; simp at *; omega) | (simp at *; omega)) _ | with_reducible refine Chg.trans ?_ (by with_reducible assumption) (by intro i hi hT; first | exact hT | exact False.elim hT | omega | (simp at *; omega)))) (fun q hq h => by omega)
    · obtain rfl : k = F.length := by omega
      have HT : Hid (takeP F m = none) := takeP_none HN.out
      go_wp2
      refine bodyPost_ret (v := .tuple #[.agg #[.int .i64 0, .int .i64 0], .int .i64 5]) (by simp [results, Try.results25, go_sem, *]) rfl ⟨?_, ⟨a, c, ?_⟩, ?_⟩
      · rw [HX.out, HC.out, HT.out]
      · rw [HF.out, HT.out]
        exact H.out.chg (T := fun _ => False) (G2.out.trans (T := fun q => q = w.heap.size) (by repeat (first | with_reducible exact Chg.refl _ _ | with_reducible assumption | with_reducible refine Chg.drewN ?_ _ | with_reducible refine Chg.drew ?_ | with_reducible refine Chg.alloc ?_ _ | with_reducible refine Chg.setCell ?_ (by first | (left; rfl) | (right; exact Nat.le_refl _) | (right; simp; done) | (right; omega) | (right; simp at *; omega) | (simp at *; omega)) _ | with_reducible refine Chg.trans ?_ (by with_reducible assumption) (by intro i hi hT; first | exact hT | exact False.elim hT | omega | (simp at *; omega)))) (fun q hq h => by omega)) (fun _ _ h => h.elim) id
      · exact (G2.out.mono (T := fun q => q = b) (fun _ _ h => h.elim)).trans (T := fun q => q = w.heap.size) (by repeat (first | with_reducible exact Chg.refl _ _ | with_reducible assumption | with_reducible refine Chg.drewN ?_ _ | with_reducible refine Chg.drew ?_ | with_reducible refine Chg.alloc ?_ _ | with_reducible refine Chg.setCell ?_ (by first | (left; rfl) | (right; exact Nat.le_refl _) | (right; simp; done) | (right; omega) | (right; simp at *; omega) | (simp at *; omega)) _ | with_reducible refine Chg.trans ?_ (by with_reducible assumption) (by intro i hi hT; first | exact hT | exact False.elim hT | omega | (simp at *; omega)))) (fun q hq h => by omega)

def countB (F : List Bool) : Nat := F.count true
theorem count_step {F : List Bool} {k : Nat} {y : Bool} (h : F[k]? = some y) : countB (F.take (k + 1)) = countB (F.take k) + (if y then 1 else 0) := by
  rw [countB, countB, List.take_add_one, h, List.count_append]
  cases y <;> simp
set_option maxHeartbeats 1000000 in
theorem rleft_any (h : Rm w S b base a c F) :
    Calls Try.prog 19 #[.pointer (some ⟨b, 0, none⟩)] w fun e w' => e = .returned (.int .i64 (countB F)) ∧ w = w' := by
  have hbd := h.bd
  have d1 := h.c1
  have H := Lib.hid h
  clear h
  go_enter Try.func19, Try.ntmps19
  go_wp2
  go_loop [3, 4] (fun s i => ∃ k : Nat, k ≤ F.length ∧ i = .int .i64 (↑k : Int) ∧ Hid (s = .int .i64 (countB (F.take k) : Int))) (fun _ i => F.length - (intOf i).toNat)
  case atStart => exact ⟨0, by omega, rfl, rfl⟩
  case round =>
    obtain ⟨k, hk, rfl, HS⟩ := hrel
    obtain ⟨s, hs⟩ : ∃ s : Nat, s = countB (F.take k) := ⟨_, rfl⟩
    have hs1 : s ≤ k := by rw [hs]; exact Nat.le_trans (List.count_le_length) (by rw [List.length_take]; omega)
    have hs2 := HS.out
    rw [← hs] at hs2
    subst hs2
    have HSS := Lib.hid hs
    clear hs HS
    by_cases hkt : k < F.length
    · obtain ⟨y, hy⟩ : ∃ y, F[k]? = some y := ⟨_, List.getElem?_eq_getElem hkt⟩
      obtain ⟨g, o, rfl, lg, j0⟩ := H.out.at hy
      have HY := Lib.hid (count_step hy)
      clear hy
      cases y
      all_goals
        go_wp2
        go_round
        case rel => exact ⟨k + 1, by omega, by go_num, by rw [HY.out, ← HSS.out]; rfl⟩
        case measure => simp [intOf]; omega
    · obtain rfl : k = F.length := by omega
      go_wp2
      go_ret
      exact ⟨ret_int (by rw [HSS.out, List.take_length]), rfl⟩

def usedB (base : Int) (F : List Bool) (n : Int) : Bool := decide (base ≤ n) && decide (n < base + F.length) && (F[(n - base).toNat]? == some false)
set_option maxHeartbeats 1000000 in
theorem rused_any (h : Rm w S b base a c F) (hn : -9223372036854775808 ≤ n ∧ n ≤ 9223372036854775807) :
    Calls Try.prog 21 #[.pointer (some ⟨b, 0, none⟩), .int .i64 n] w (Quiet (.bool (usedB base F n)) w) := by
  have hbd := h.bd
  have d0 := h.c0
  have d1 := h.c1
  have H := Lib.hid h
  clear h
  by_cases p1 : base ≤ n
  rotate_left
  · have q1 : decide (base ≤ n) = false := by simp; omega
    have hu : usedB base F n = false := by rw [usedB, q1]; rfl
    rw [hu]
    clear hu
    go_enter Try.func21, Try.ntmps21
    go_wp2
    go_quiet (fail)
    go_wp2
    go_ret
    exact ⟨rfl, _, rfl⟩
  by_cases p2 : n < base + F.length
  rotate_left
  · have q1 : decide (n < base + (F.length : Int)) = false := by simp; omega
    have hu : usedB base F n = false := by rw [usedB, q1]; simp
    rw [hu]
    clear hu
    go_enter Try.func21, Try.ntmps21
    go_wp2
    go_quiet (fail)
    go_wp2
    go_ret
    exact ⟨rfl, _, rfl⟩
  obtain ⟨p, hp⟩ : ∃ p : Nat, n = base + p := ⟨(n - base).toNat, by omega⟩
  obtain ⟨y, hy⟩ : ∃ y, F[p]? = some y := ⟨_, List.getElem?_eq_getElem (by omega)⟩
  have hu : usedB base F n = !y := by
    have e : (n - base).toNat = p := by omega
    rw [usedB, e, hy, decide_eq_true p1, decide_eq_true p2]
    cases y <;> rfl
  rw [hu]
  clear hu
  have q1 : decide (base ≤ n) = true := by simp; omega
  have q2 : decide (n < base + (F.length : Int)) = true := by simp; omega
  have q3 : n - base = p := by omega
  have q4 : (p : Int) < F.length := by omega
  obtain ⟨g, o, rfl, lg, j0⟩ := H.out.at hy
  clear hy hp
  go_enter Try.func21, Try.ntmps21
  go_wp2
  go_quiet (fail)
  go_wp2
  go_ret
  exact ⟨rfl, _, rfl⟩
end
end Go.Proofs.Ytheiodnckjmieaa
