/- The map of extents, sector by sector: what each of its functions tells, by the reference's list. -/
import Derived.Test.YtheiodnckjmieaaEf
import Derived.Test.YtheiodnckjmieaaEg
namespace Go.Proofs.Ytheiodnckjmieaa
set_option linter.unusedVariables false
open Go.RowKit

/-- The map, by its sectors. -/
def Ef (w : World) (S : Nat → Prop) (b : Nat) (base : Int) (F : List Bool) : Prop := ∃ a c fs, Em w S b base F.length a c fs ∧ Same base F fs
theorem Ef.chg {w w' : World} {S T : Nat → Prop} {b : Nat} {base : Int} {F : List Bool} (h : Ef w S b base F) (k : Chg T w w') (hT : ∀ k, k < w.heap.size → T k → S k) (hb : ¬ T b) : Ef w' S b base F := by
  obtain ⟨a, c, fs, h1, h2⟩ := h
  exact ⟨a, c, fs, h1.chg k hT hb, h2⟩
theorem Ef.bd {w : World} {S : Nat → Prop} {b : Nat} {base : Int} {F : List Bool} (h : Ef w S b base F) : 0 ≤ base ∧ base ≤ 1048576 ∧ F.length ≤ 1048576 := by
  obtain ⟨a, c, fs, h1, h2⟩ := h
  have := h1.bd
  omega
theorem allF_iff {base : Int} {F : List Bool} {x n : Int} (hn : 0 ≤ n) {d : Bool} : allF F (x - base).toNat n.toNat d = true ↔ allB base F (x, n) d := by
  unfold allF allB
  rw [decide_eq_true_iff]
  constructor
  · intro h k hk; exact h k (by simp only at hk; omega)
  · intro h k hk; exact h k (by simp only; omega)

section
variable {base : Int} {F : List Bool} {fs : List Ext}
theorem take_first {A R : List Ext} {f : Ext} {n : Int} (hs : Same base F (A ++ f :: R)) (hn : 1 ≤ n) (hA : ∀ x ∈ A, x.2 < n) (hf : n ≤ f.2) : takeP F n.toNat = some (f.1 - base).toNat ∧ (f.1 - base).toNat + n.toNat ≤ F.length ∧ base ≤ f.1 := by
  have hb := hs.norm.bounds f (by simp)
  have hall : allB base F (f.1, n) true := (all_free (e := (f.1, n)) hb.1).2 fun x hx => (hs.mem x).1 (mem_append.2 (.inr (mem_cons.2 (.inl (by unfold inE at hx ⊢; simp only at hx; omega)))))
  refine ⟨takeP_some (by omega) ?_ fun q hq => ?_, by omega, hb.1⟩
  · rw [fitsB, decide_eq_true (by omega), (allF_iff (by omega)).2 hall]; rfl
  · cases hfit : fitsB F n.toNat q with
    | false => rfl
    | true =>
      exfalso
      rw [fitsB, Bool.and_eq_true, decide_eq_true_iff] at hfit
      have h2 : allF F (base + q - base).toNat n.toNat true = true := by
        have e : (base + (q : Int) - base).toNat = q := by omega
        rw [e]; exact hfit.2
      have h3 := (allF_iff (x := base + q) (by omega)).1 h2
      have h4 := (all_free (e := (base + (q : Int), n)) (by show base ≤ base + (q : Int); omega)).1 h3
      obtain ⟨e, he, h5, h6⟩ := hs.norm.whole (x := base + q) hn (fun y h1 h2 => (hs.mem y).2 (h4 y ⟨h1, h2⟩))
      have hn2 := (norm_app.1 hs.norm).2
      rcases List.mem_append.1 he with h | h
      · have := hA e h; omega
      · rcases List.mem_cons.1 h with h | h
        · subst h; omega
        · have := hn2.2.2.2.bounds e h
          omega
theorem take_never {n : Int} (hs : Same base F fs) (hn : 1 ≤ n) (h : ∀ f ∈ fs, f.2 < n) : takeP F n.toNat = none := by
  refine takeP_none fun q hq => ?_
  cases hfit : fitsB F n.toNat q with
  | false => rfl
  | true =>
    exfalso
    rw [fitsB, Bool.and_eq_true, decide_eq_true_iff] at hfit
    have h2 : allF F (base + q - base).toNat n.toNat true = true := by
      have e : (base + (q : Int) - base).toNat = q := by omega
      rw [e]; exact hfit.2
    have h3 := (allF_iff (x := base + q) (by omega)).1 h2
    have h4 := (all_free (e := (base + (q : Int), n)) (by show base ≤ base + (q : Int); omega)).1 h3
    obtain ⟨e, he, h5, h6⟩ := hs.norm.whole (x := base + q) hn (fun y h1 h2 => (hs.mem y).2 (h4 y ⟨h1, h2⟩))
    have := h e he
    omega
theorem build_same (base : Int) (F : List Bool) : ∀ k, k ≤ F.length → ∃ gs, Same base (F.take k) gs ∧ sumE gs = countB (F.take k)
  | 0, _ => ⟨[], same_zero base F, rfl⟩
  | k + 1, hk => by
    obtain ⟨gs, h1, h2⟩ := build_same base F k (by omega)
    obtain ⟨y, hy⟩ : ∃ y, F[k]? = some y := ⟨_, List.getElem?_eq_getElem (by omega)⟩
    have hc := count_step hy
    cases y with
    | false => exact ⟨gs, same_skip h1 hy, by rw [hc, h2]; simp⟩
    | true =>
      by_cases hp : ∃ j, k = j + 1 ∧ F[j]? = some true
      · obtain ⟨j, rfl, hj⟩ := hp
        obtain ⟨gs', e, rfl, _, h3⟩ := same_join h1 hy hj
        refine ⟨_, h3, ?_⟩
        rw [hc]
        rw [sumE_append] at h2 ⊢
        simp only [sumE] at h2 ⊢
        simp
        omega
      · refine ⟨_, same_new h1 hy fun j hj => ?_, ?_⟩
        · subst hj
          obtain ⟨y, hy'⟩ : ∃ y, F[j]? = some y := ⟨_, List.getElem?_eq_getElem (by omega)⟩
          cases y with
          | false => exact hy'
          | true => exact absurd ⟨j, rfl, hy'⟩ hp
        · rw [hc, sumE_append, h2]; simp [sumE]
theorem same_uniq {gs : List Ext} (h : Same base F fs) (k : Same base F gs) : fs = gs := h.norm.uniq k.norm fun x => by rw [h.mem, k.mem]
theorem same_sum (h : Same base F fs) : sumE fs = countB F := by
  obtain ⟨gs, h1, h2⟩ := build_same base F F.length (Nat.le_refl _)
  rw [List.take_length] at h1 h2
  rw [same_uniq h h1]; exact h2
theorem same_used {n : Int} (h : Same base F fs) {r : Bool} (hr : r = true ↔ base ≤ n ∧ n < base + F.length ∧ ¬ Mem n fs) : r = usedB base F n := by
  have : usedB base F n = true ↔ base ≤ n ∧ n < base + F.length ∧ ¬ Mem n fs := by
    unfold usedB
    rw [Bool.and_eq_true, Bool.and_eq_true, decide_eq_true_iff, decide_eq_true_iff, h.mem]
    constructor
    · rintro ⟨⟨h1, h2⟩, h3⟩
      refine ⟨h1, h2, fun hf => ?_⟩
      rw [hf.2] at h3
      simp at h3
    · rintro ⟨h1, h2, h3⟩
      refine ⟨⟨h1, h2⟩, ?_⟩
      obtain ⟨y, hy⟩ : ∃ y, F[(n - base).toNat]? = some y := ⟨_, List.getElem?_eq_getElem (by omega)⟩
      cases y with
      | false => rw [hy]; rfl
      | true => exact absurd ⟨h1, hy⟩ h3
  cases r <;> cases hu : usedB base F n
  · rfl
  · rw [hu] at this; exact absurd (hr.2 (this.1 rfl)) (by simp)
  · rw [hu] at this; exact absurd (this.2 (hr.1 rfl)) (by simp)
  · rfl
end

section
variable (w : World) (S : Nat → Prop) (b : Nat) (base : Int) (F : List Bool) (x n : Int)
theorem take_ef (h : Ef w S b base F) (hn : n ≤ 9223372036854775807) :
    Calls Try.prog 22 #[.pointer (some ⟨b, 0, none⟩), .int .i64 n] w fun e w' => e = .returned (.tuple #[.agg #[.int .i64 (takeX base F n).1, .int .i64 (takeX base F n).2], .int .i64 (takeC F n)]) ∧ Ef w' S b base (takeF F n) ∧ Chg (fun k => k = b) w w' := by
  by_cases h1 : n < 1
  · refine (take_few w S b n h1).mono ?_
    rintro e w' ⟨rfl, hg⟩
    have hg' := Chg.ofBelow (S := fun _ => False) hg
    exact ⟨by rw [takeX, takeC, if_pos h1, if_pos h1], by rw [takeF, if_pos h1]; exact h.chg hg' (fun _ _ h => h.elim) id, hg'.mono (fun _ _ h => h.elim)⟩
  · obtain ⟨a, c, fs, hE, hS⟩ := h
    refine (take_list w S b base F.length a c fs n hE (by omega)).mono ?_
    rintro e w' (⟨A, f, R, rfl, hA, hf, rfl, ⟨a', c', hE'⟩, hg⟩ | ⟨hno, rfl, hg⟩)
    · obtain ⟨t1, t2, t3⟩ := take_first hS (by omega) hA hf
      have ht := take_norm hS.norm (Int.le_refl f.1) (e := (f.1, n)) (by show 1 ≤ n; omega) (by show f.1 + n ≤ f.1 + f.2; omega)
      have hF : takeF F n = setR F (f.1 - base).toNat n.toNat false := by rw [takeF, if_neg h1, t1]
      have e1 : base + ((f.1 - base).toNat : Int) = f.1 := by omega
      refine ⟨by rw [takeX, takeC, if_neg h1, if_neg h1, t1]; simp only [e1], ⟨a', c', _, by rw [takeF_len]; exact hE', ?_⟩, hg⟩
      rw [hF]
      exact hS.set (e := (f.1, n)) t3 (by show 1 ≤ n; omega) (by show f.1 + n ≤ _; omega) ht.1 (fun y => by simpa using ht.2 y)
    · have t1 := take_never hS (by omega) hno
      have hg' := Chg.ofBelow (S := fun _ => False) hg
      exact ⟨by rw [takeX, takeC, if_neg h1, if_neg h1, t1], ⟨a, c, fs, by rw [takeF_len]; exact hE.chg hg' (fun _ _ h => h.elim) id, by rw [takeF, if_neg h1, t1]; exact hS⟩, hg'.mono (fun _ _ h => h.elim)⟩

theorem claim_ef (h : Ef w S b base F) (hx : -9223372036854775808 ≤ x ∧ x ≤ 9223372036854775807) (hn : -9223372036854775808 ≤ n ∧ n ≤ 9223372036854775807) :
    Calls Try.prog 24 #[.pointer (some ⟨b, 0, none⟩), .agg #[.int .i64 x, .int .i64 n]] w fun e w' => e = .returned (.int .i64 (claimC base F x n)) ∧ Ef w' S b base (claimF base F x n) ∧ Chg (fun k => k = b) w w' := by
  obtain ⟨a, c, fs, hE, hS⟩ := h
  cases ho : oursB base F.length x n with
  | false =>
    refine (claim_not w S b base F.length a c fs x n hE hx hn ho).mono ?_
    rintro e w' ⟨rfl, hg⟩
    have hg' := Chg.ofBelow (S := fun _ => False) hg
    have hF : claimF base F x n = F := by rw [claimF, ho]; rfl
    exact ⟨by rw [claimC, ho]; rfl, by rw [hF]; exact ⟨a, c, fs, hE.chg hg' (fun _ _ h => h.elim) id, hS⟩, hg'.mono (fun _ _ h => h.elim)⟩
  | true =>
    have hoi := ours_iff ho
    have hiff : (∀ y, inE y (x, n) → Mem y fs) ↔ allF F (x - base).toNat n.toNat true = true := by
      rw [allF_iff (by omega), all_free (by exact hoi.2.1)]
      exact ⟨fun h y hy => (hS.mem y).1 (h y hy), fun h y hy => (hS.mem y).2 (h y hy)⟩
    refine (claim_list w S b base F.length a c fs x n hE hx hn ho).mono ?_
    rintro e w' (⟨h1, rfl, ⟨gs, a', c', hE', hm⟩, hg⟩ | ⟨h1, rfl, hg⟩)
    · have ha := hiff.1 h1
      refine ⟨by rw [claimC, ho, ha]; rfl, ⟨a', c', gs, by rw [claimF_len]; exact hE', ?_⟩, hg⟩
      rw [claimF, ho, ha, if_pos ⟨rfl, rfl⟩]
      exact hS.set (e := (x, n)) hoi.2.1 hoi.1 hoi.2.2 hE'.norm (fun y => by simpa using hm y)
    · have ha : allF F (x - base).toNat n.toNat true = false := by
        cases hh : allF F (x - base).toNat n.toNat true
        · rfl
        · exact absurd (hiff.2 hh) h1
      have hg' := Chg.ofBelow (S := fun _ => False) hg
      have hF : claimF base F x n = F := by rw [claimF, ho, ha]; simp
      exact ⟨by rw [claimC, ho, ha]; rfl, by rw [hF]; exact ⟨a, c, fs, hE.chg hg' (fun _ _ h => h.elim) id, hS⟩, hg'.mono (fun _ _ h => h.elim)⟩

theorem give_ef (h : Ef w S b base F) (hx : -9223372036854775808 ≤ x ∧ x ≤ 9223372036854775807) (hn : -9223372036854775808 ≤ n ∧ n ≤ 9223372036854775807) :
    Calls Try.prog 23 #[.pointer (some ⟨b, 0, none⟩), .agg #[.int .i64 x, .int .i64 n]] w fun e w' => e = .returned (.int .i64 (giveC base F x n)) ∧ Ef w' S b base (giveF base F x n) ∧ Chg (fun k => k = b) w w' := by
  obtain ⟨a, c, fs, hE, hS⟩ := h
  cases ho : oursB base F.length x n with
  | false =>
    refine (give_not w S b base F.length a c fs x n hE hx hn ho).mono ?_
    rintro e w' ⟨rfl, hg⟩
    have hg' := Chg.ofBelow (S := fun _ => False) hg
    have hF : giveF base F x n = F := by rw [giveF, ho]; rfl
    exact ⟨by rw [giveC, ho]; rfl, by rw [hF]; exact ⟨a, c, fs, hE.chg hg' (fun _ _ h => h.elim) id, hS⟩, hg'.mono (fun _ _ h => h.elim)⟩
  | true =>
    have hoi := ours_iff ho
    have hiff : (∀ y, inE y (x, n) → ¬ Mem y fs) ↔ allF F (x - base).toNat n.toNat false = true := by
      rw [allF_iff (by omega), all_used (by exact hoi.2.1) (by exact hoi.2.2)]
      exact ⟨fun h y hy hf => h y hy ((hS.mem y).2 hf), fun h y hy hm => h y hy ((hS.mem y).1 hm)⟩
    refine (give_list w S b base F.length a c fs x n hE hx hn ho).mono ?_
    rintro e w' (⟨h1, rfl, ⟨gs, ⟨a', c', hE'⟩, hm⟩, hg⟩ | ⟨⟨y, hy1, hy2⟩, rfl, hg⟩)
    · have ha := hiff.1 h1
      refine ⟨by rw [giveC, ho, ha]; rfl, ⟨a', c', gs, by rw [giveF_len]; exact hE', ?_⟩, hg⟩
      rw [giveF, ho, ha, if_pos ⟨rfl, rfl⟩]
      exact hS.set (e := (x, n)) hoi.2.1 hoi.1 hoi.2.2 hE'.norm (fun y => by simpa using hm y)
    · have ha : allF F (x - base).toNat n.toNat false = false := by
        cases hh : allF F (x - base).toNat n.toNat false
        · rfl
        · exact absurd hy2 (hiff.2 hh y hy1)
      have hg' := Chg.ofBelow (S := fun _ => False) hg
      have hF : giveF base F x n = F := by rw [giveF, ho, ha]; simp
      exact ⟨by rw [giveC, ho, ha]; rfl, by rw [hF]; exact ⟨a, c, fs, hE.chg hg' (fun _ _ h => h.elim) id, hS⟩, hg'.mono (fun _ _ h => h.elim)⟩

theorem left_ef (h : Ef w S b base F) : Calls Try.prog 18 #[.pointer (some ⟨b, 0, none⟩)] w fun e w' => e = .returned (.int .i64 (countB F)) ∧ Chg (fun _ => False) w w' := by
  obtain ⟨a, c, fs, hE, hS⟩ := h
  refine (left_list w S b base F.length a c fs hE).mono ?_
  rintro e w' ⟨rfl, hg⟩
  exact ⟨by rw [same_sum hS], Chg.ofBelow hg⟩
theorem used_ef (h : Ef w S b base F) (hn : -9223372036854775808 ≤ n ∧ n ≤ 9223372036854775807) : Calls Try.prog 20 #[.pointer (some ⟨b, 0, none⟩), .int .i64 n] w fun e w' => e = .returned (.bool (usedB base F n)) ∧ Chg (fun _ => False) w w' := by
  obtain ⟨a, c, fs, hE, hS⟩ := h
  refine (used_list w S b base F.length a c fs n hE hn).mono ?_
  rintro e w' ⟨⟨r, rfl, hr⟩, hg⟩
  exact ⟨by rw [same_used hS hr], Chg.ofBelow hg⟩
theorem free_ef (h : Ef w S b base F) : Calls Try.prog 16 #[.pointer (some ⟨b, 0, none⟩)] w fun e w' => (∃ gs a' c', e = .returned (.slice a' gs.length c') ∧ w'.ownsRow w.heap.size 44 2 (.slice a' gs.length c') gs.length (flat gs) ∧ Same base F gs) ∧ Chg (fun _ => False) w w' := by
  obtain ⟨a, c, fs, hE, hS⟩ := h
  refine (free_list w S b base F.length a c fs hE).mono ?_
  rintro e w' ⟨⟨a', c', rfl, ho⟩, hg⟩
  exact ⟨⟨fs, a', c', rfl, ho, hS⟩, Chg.ofBelow hg⟩
end
theorem new_ef (w : World) (f : Int) (s : Nat) (h : badN f s = false) :
    Calls Try.prog 12 #[.int .i64 f, .int .i64 s] w fun e w' => e = .returned (.tuple #[.pointer (some ⟨w.heap.size, 0, none⟩), .int .i64 0]) ∧ Ef w' (fun q => q = w.heap.size) w.heap.size f (List.replicate s true) ∧ Chg (fun _ => False) w w' := by
  refine (new_ok w f s h).mono ?_
  rintro e w' ⟨rfl, ⟨a, c, hE⟩, hg⟩
  refine ⟨rfl, ⟨a, c, _, by rw [List.length_replicate]; exact hE, ?_, fun x => ?_⟩, hg⟩
  · rw [List.length_replicate]; exact hE.norm
  · have hf : freeB f (List.replicate s true) x ↔ f ≤ x ∧ x < f + s := by
      unfold freeB
      rw [List.getElem?_replicate]
      constructor
      · rintro ⟨h1, h2⟩
        refine ⟨h1, ?_⟩
        by_cases hh : (x - f).toNat < s
        · omega
        · rw [if_neg hh] at h2; cases h2
      · rintro ⟨h1, h2⟩
        exact ⟨h1, by rw [if_pos (by omega)]⟩
    rw [hf]
    unfold firstFs
    by_cases hs : 0 < (s : Int)
    · rw [if_pos hs, mem_one]; rfl
    · rw [if_neg hs]
      constructor
      · intro h; exact absurd h (mem_nil x)
      · intro h; omega
end Go.Proofs.Ytheiodnckjmieaa
