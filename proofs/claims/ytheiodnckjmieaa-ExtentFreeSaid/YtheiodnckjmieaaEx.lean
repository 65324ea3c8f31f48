/- The reference's map: Claim, Give, Take. -/
import Derived.Test.YtheiodnckjmieaaEs
namespace Go.Proofs.Ytheiodnckjmieaa
set_option linter.unusedVariables false
open Go.RowKit

def claimC (base : Int) (F : List Bool) (x n : Int) : Int := if oursB base F.length x n = true then (if allF F (x - base).toNat n.toNat true = true then 0 else 7) else 1
def claimF (base : Int) (F : List Bool) (x n : Int) : List Bool := if oursB base F.length x n = true ∧ allF F (x - base).toNat n.toNat true = true then setR F (x - base).toNat n.toNat false else F
def giveC (base : Int) (F : List Bool) (x n : Int) : Int := if oursB base F.length x n = true then (if allF F (x - base).toNat n.toNat false = true then 0 else 6) else 1
def giveF (base : Int) (F : List Bool) (x n : Int) : List Bool := if oursB base F.length x n = true ∧ allF F (x - base).toNat n.toNat false = true then setR F (x - base).toNat n.toNat true else F
def fitsB (F : List Bool) (n p : Nat) : Bool := decide (p + n ≤ F.length) && allF F p n true
def takeP (F : List Bool) (n : Nat) : Option Nat := (List.range F.length).find? (fitsB F n)
def takeX (base : Int) (F : List Bool) (n : Int) : Int × Int := if n < 1 then (0, 0) else match takeP F n.toNat with | some p => (base + p, n) | none => (0, 0)
def takeC (F : List Bool) (n : Int) : Int := if n < 1 then 1 else match takeP F n.toNat with | some _ => 0 | none => 5
def takeF (F : List Bool) (n : Int) : List Bool := if n < 1 then F else match takeP F n.toNat with | some p => setR F p n.toNat false | none => F

theorem claimF_len (base : Int) (F : List Bool) (x n : Int) : (claimF base F x n).length = F.length := by unfold claimF; split <;> simp [setR_len]
theorem giveF_len (base : Int) (F : List Bool) (x n : Int) : (giveF base F x n).length = F.length := by unfold giveF; split <;> simp [setR_len]
theorem takeF_len (F : List Bool) (n : Int) : (takeF F n).length = F.length := by
  unfold takeF
  split
  · rfl
  · split <;> simp [setR_len]

section
variable (w : World) (S : Nat → Prop) (b : Nat) (base : Int) (a : Option Addr) (c : Nat) (F : List Bool) (x n : Int)
set_option maxHeartbeats 1000000 in
theorem rclaim_any (h : Rm w S b base a c F) (hx : -9223372036854775808 ≤ x ∧ x ≤ 9223372036854775807) (hn : -9223372036854775808 ≤ n ∧ n ≤ 9223372036854775807) :
    Calls Try.prog 26 #[.pointer (some ⟨b, 0, none⟩), .agg #[.int .i64 x, .int .i64 n]] w fun e w' => e = .returned (.int .i64 (claimC base F x n)) ∧ (∃ a' c', Rm w' S b base a' c' (claimF base F x n)) ∧ Chg (fun k => k = b) w w' := by
  have lb := cell_lt h.c0
  have hbd := h.bd
  have H := Lib.hid h
  clear h
  have no : ∀ (w' : World), Chg (fun _ => False) w w' → claimF base F x n = F → (∃ a' c', Rm w' S b base a' c' (claimF base F x n)) ∧ Chg (fun k => k = b) w w' := fun _ k e => ⟨⟨a, c, by rw [e]; exact H.out.chg k (fun _ _ h => h.elim) id⟩, k.mono (fun _ _ h => h.elim)⟩
  have NO := Lib.hid no
  clear no
  go_enter Try.func26, Try.ntmps26
  go_wp2_with fail
  refine name_calls ?_; intro W hW
  have gW : Chg (fun _ => False) w W := by subst hW; exact (by repeat (first | with_reducible exact Chg.refl _ _ | with_reducible assumption | with_reducible refine Chg.drewN ?_ _ | with_reducible refine Chg.drew ?_ | with_reducible refine Chg.alloc ?_ _ | with_reducible refine Chg.setCell ?_ (by first | (left; rfl) | (right; exact Nat.le_refl _) | (right; simp; done) | (right; omega) | (right; simp at *; omega) | (simp at *; omega)) _ | with_reducible refine Chg.trans ?_ (by with_reducible assumption) (by intro i hi hT; first | exact hT | exact False.elim hT | omega | (simp at *; omega))))
  have k0 : W.cell? ⟨w.heap.size, 0, none⟩ = some (.int .i64 x) := by subst hW; go_simp
  have k1 : W.cell? ⟨w.heap.size, 1, none⟩ = some (.int .i64 n) := by subst hW; go_simp
  have z1 : w.heap.size < W.heap.size := by subst hW; simp
  clear hW
  refine (rin_any W S b base a c F x n (H.out.chg gW (fun _ _ h => h.elim) id) hx hn).mono ?_; rintro e w2 ⟨rfl, g2⟩
  have g2' := Chg.ofBelow (S := fun _ => False) g2
  have gA := gW.trans g2' (fun _ _ h => h)
  cases ho : oursB base F.length x n with
  | false =>
    go_wp2
    go_ret
    exact ⟨ret_int (by rw [claimC, ho]; rfl), NO.out _ gA (by rw [claimF, ho]; rfl)⟩
  | true =>
    have hoi := ours_iff ho
    have y0 : w2.cell? ⟨w.heap.size, 0, none⟩ = some (.int .i64 x) := by rw [g2'.cell z1 id]; exact k0
    have y1 : w2.cell? ⟨w.heap.size, 1, none⟩ = some (.int .i64 n) := by rw [g2'.cell z1 id]; exact k1
    have z2 : w.heap.size < w2.heap.size := Nat.lt_of_lt_of_le z1 g2.size
    obtain ⟨p, hp⟩ : ∃ p : Nat, x = base + p := ⟨(x - base).toNat, by omega⟩
    obtain ⟨m, rfl⟩ : ∃ m : Nat, n = m := ⟨n.toNat, by omega⟩
    have hpe : (x - base).toNat = p := by omega
    have hpl : p + m ≤ F.length := by omega
    have hC : claimC base F x m = if allF F p m true = true then 0 else 7 := by rw [claimC, ho, hpe]; rfl
    have hF : claimF base F x m = if allF F p m true = true then setR F p m false else F := by rw [claimF, ho, hpe]; simp
    have HC := Lib.hid hC
    have HF := Lib.hid hF
    have HP := Lib.hid hp
    have HO := Lib.hid ho
    clear hC hF hp ho hpe k0 k1
    go_wp2_with fail
    refine (rall_any w2 S b base a c F x p m true (H.out.chg gA (fun _ _ h => h.elim) id) HP.out hpl).mono ?_; rintro e w3 ⟨rfl, g3⟩
    have g3' := Chg.ofBelow (S := fun _ => False) g3
    have gB := gA.trans g3' (fun _ _ h => h)
    have v0 : w3.cell? ⟨w.heap.size, 0, none⟩ = some (.int .i64 x) := by rw [g3'.cell z2 id]; exact y0
    have v1 : w3.cell? ⟨w.heap.size, 1, none⟩ = some (.int .i64 m) := by rw [g3'.cell z2 id]; exact y1
    cases hall : allF F p m true with
    | false =>
      have HALL := Lib.hid hall
      clear hall
      go_wp2
      go_ret
      exact ⟨ret_int (by rw [HC.out, HALL.out]; rfl), NO.out _ gB (by rw [HF.out, HALL.out]; rfl)⟩
    | true =>
      have HALL := Lib.hid hall
      clear hall
      go_wp2_with fail
      refine (rturn_any w3 S b base a c F x p m false (H.out.chg gB (fun _ _ h => h.elim) id) HP.out hpl (by omega)).mono ?_; rintro e w4 ⟨rfl, hR, g4⟩
      have HR := Lib.hid hR
      clear hR
      go_wp2
      go_ret
      exact ⟨ret_int (by rw [HC.out, HALL.out]; rfl), by rw [HF.out, HALL.out]; exact HR.out, (gB.mono (fun _ _ h => h.elim)).trans g4 (fun _ _ h => h)⟩
set_option maxHeartbeats 1000000 in
theorem rgive_any (h : Rm w S b base a c F) (hx : -9223372036854775808 ≤ x ∧ x ≤ 9223372036854775807) (hn : -9223372036854775808 ≤ n ∧ n ≤ 9223372036854775807) :
    Calls Try.prog 27 #[.pointer (some ⟨b, 0, none⟩), .agg #[.int .i64 x, .int .i64 n]] w fun e w' => e = .returned (.int .i64 (giveC base F x n)) ∧ (∃ a' c', Rm w' S b base a' c' (giveF base F x n)) ∧ Chg (fun k => k = b) w w' := by
  have lb := cell_lt h.c0
  have hbd := h.bd
  have H := Lib.hid h
  clear h
  have no : ∀ (w' : World), Chg (fun _ => False) w w' → giveF base F x n = F → (∃ a' c', Rm w' S b base a' c' (giveF base F x n)) ∧ Chg (fun k => k = b) w w' := fun _ k e => ⟨⟨a, c, by rw [e]; exact H.out.chg k (fun _ _ h => h.elim) id⟩, k.mono (fun _ _ h => h.elim)⟩
  have NO := Lib.hid no
  clear no
  go_enter Try.func27, Try.ntmps27
  go_wp2_with fail
  refine name_calls ?_; intro W hW
  have gW : Chg (fun _ => False) w W := by subst hW; exact (by repeat (first | with_reducible exact Chg.refl _ _ | with_reducible assumption | with_reducible refine Chg.drewN ?_ _ | with_reducible refine Chg.drew ?_ | with_reducible refine Chg.alloc ?_ _ | with_reducible refine Chg.setCell ?_ (by first | (left; rfl) | (right; exact Nat.le_refl _) | (right; simp; done) | (right; omega) | (right; simp at *; omega) | (simp at *; omega)) _ | with_reducible refine Chg.trans ?_ (by with_reducible assumption) (by intro i hi hT; first | exact hT | exact False.elim hT | omega | (simp at *; omega))))
  have k0 : W.cell? ⟨w.heap.size, 0, none⟩ = some (.int .i64 x) := by subst hW; go_simp
  have k1 : W.cell? ⟨w.heap.size, 1, none⟩ = some (.int .i64 n) := by subst hW; go_simp
  have z1 : w.heap.size < W.heap.size := by subst hW; simp
  clear hW
  refine (rin_any W S b base a c F x n (H.out.chg gW (fun _ _ h => h.elim) id) hx hn).mono ?_; rintro e w2 ⟨rfl, g2⟩
  have g2' := Chg.ofBelow (S := fun _ => False) g2
  have gA := gW.trans g2' (fun _ _ h => h)
  cases ho : oursB base F.length x n with
  | false =>
    go_wp2
    go_ret
    exact ⟨ret_int (by rw [giveC, ho]; rfl), NO.out _ gA (by rw [giveF, ho]; rfl)⟩
  | true =>
    have hoi := ours_iff ho
    have y0 : w2.cell? ⟨w.heap.size, 0, none⟩ = some (.int .i64 x) := by rw [g2'.cell z1 id]; exact k0
    have y1 : w2.cell? ⟨w.heap.size, 1, none⟩ = some (.int .i64 n) := by rw [g2'.cell z1 id]; exact k1
    have z2 : w.heap.size < w2.heap.size := Nat.lt_of_lt_of_le z1 g2.size
    obtain ⟨p, hp⟩ : ∃ p : Nat, x = base + p := ⟨(x - base).toNat, by omega⟩
    obtain ⟨m, rfl⟩ : ∃ m : Nat, n = m := ⟨n.toNat, by omega⟩
    have hpe : (x - base).toNat = p := by omega
    have hpl : p + m ≤ F.length := by omega
    have hC : giveC base F x m = if allF F p m false = true then 0 else 6 := by rw [giveC, ho, hpe]; rfl
    have hF : giveF base F x m = if allF F p m false = true then setR F p m true else F := by rw [giveF, ho, hpe]; simp
    have HC := Lib.hid hC
    have HF := Lib.hid hF
    have HP := Lib.hid hp
    have HO := Lib.hid ho
    clear hC hF hp ho hpe k0 k1
    go_wp2_with fail
    refine (rall_any w2 S b base a c F x p m false (H.out.chg gA (fun _ _ h => h.elim) id) HP.out hpl).mono ?_; rintro e w3 ⟨rfl, g3⟩
    have g3' := Chg.ofBelow (S := fun _ => False) g3
    have gB := gA.trans g3' (fun _ _ h => h)
    have v0 : w3.cell? ⟨w.heap.size, 0, none⟩ = some (.int .i64 x) := by rw [g3'.cell z2 id]; exact y0
    have v1 : w3.cell? ⟨w.heap.size, 1, none⟩ = some (.int .i64 m) := by rw [g3'.cell z2 id]; exact y1
    cases hall : allF F p m false with
    | false =>
      have HALL := Lib.hid hall
      clear hall
      go_wp2
      go_ret
      exact ⟨ret_int (by rw [HC.out, HALL.out]; rfl), NO.out _ gB (by rw [HF.out, HALL.out]; rfl)⟩
    | true =>
      have HALL := Lib.hid hall
      clear hall
      go_wp2_with fail
      refine (rturn_any w3 S b base a c F x p m true (H.out.chg gB (fun _ _ h => h.elim) id) HP.out hpl (by omega)).mono ?_; rintro e w4 ⟨rfl, hR, g4⟩
      have HR := Lib.hid hR
      clear hR
      go_wp2
      go_ret
      exact ⟨ret_int (by rw [HC.out, HALL.out]; rfl), by rw [HF.out, HALL.out]; exact HR.out, (gB.mono (fun _ _ h => h.elim)).trans g4 (fun _ _ h => h)⟩

theorem takeP_none {F : List Bool} {n : Nat} (h : ∀ p, p < F.length → fitsB F n p = false) : takeP F n = none := by
  unfold takeP
  rw [List.find?_eq_none]
  intro p hp
  rw [h p (List.mem_range.1 hp)]
  simp
theorem takeP_some {F : List Bool} {n p : Nat} (hp : p < F.length) (h : fitsB F n p = true) (hl : ∀ q, q < p → fitsB F n q = false) : takeP F n = some p := by
  unfold takeP
  rw [List.find?_eq_some_iff_append]
  refine ⟨h, List.range p, (List.range (F.length - p - 1)).map (· + (p + 1)), ?_, ?_⟩
  · have e : F.length = p + 1 + (F.length - p - 1) := by omega
    conv => lhs; rw [e]
    rw [List.range_add, List.range_succ, List.append_assoc]
    congr 1
    simp only [List.singleton_append, List.cons.injEq, true_and]
    refine List.map_congr_left fun q _ => ?_
    omega
  · intro q hq
    rw [hl q (List.mem_range.1 hq)]
    rfl
end
end Go.Proofs.Ytheiodnckjmieaa
