/- Plain law of giving back: what is held, in whatever order it goes. -/
import Derived.Test.YtheiodnckjmieaaE2
namespace Go.Proofs.Ytheiodnckjmieaa
set_option linter.unusedVariables false

/-- l: the extents that were taken; gone: which places of l were given back. -/
structure Held (F : List Bool) (l : List Ext) (gone : Nat → Prop) : Prop where
  fit : ∀ (p : Nat) (e : Ext), l[p]? = some e → 0 ≤ e.1 ∧ 1 ≤ e.2 ∧ e.1 + e.2 ≤ F.length
  apart : ∀ (p q : Nat) (e f : Ext), l[p]? = some e → l[q]? = some f → p ≠ q → ∀ x, inE x e → ¬ inE x f
  free : ∀ x, freeB 0 F x ↔ (0 ≤ x ∧ x < F.length) ∧ ∀ (p : Nat) (e : Ext), l[p]? = some e → ¬ gone p → ¬ inE x e
theorem held_new (N : Nat) : Held (List.replicate N true) [] (fun _ => False) := by
  refine ⟨fun p e h => by simp at h, fun p q e f h => by simp at h, fun x => ?_⟩
  unfold freeB
  rw [List.getElem?_replicate, List.length_replicate]
  constructor
  · rintro ⟨h1, h2⟩
    refine ⟨⟨h1, ?_⟩, fun p e h => by simp at h⟩
    by_cases hh : (x - 0).toNat < N
    · omega
    · rw [if_neg hh] at h2; cases h2
  · rintro ⟨⟨h1, h2⟩, _⟩
    exact ⟨h1, by rw [if_pos (by omega)]⟩
theorem snoc_get {l : List Ext} {e f : Ext} {p : Nat} (h : (l ++ [e])[p]? = some f) : l[p]? = some f ∨ p = l.length ∧ f = e := by
  by_cases hp : p < l.length
  · rw [List.getElem?_append_left hp] at h; exact .inl h
  · have hl := (List.getElem?_eq_some_iff.1 h).1
    simp at hl
    obtain rfl : p = l.length := by omega
    simp at h
    exact .inr ⟨rfl, h.symm⟩
theorem take_got {F : List Bool} {m : Nat} (h : takeC F m = 0) : ∃ p, takeP F m = some p ∧ p + m ≤ F.length ∧ allF F p m true = true ∧ 1 ≤ m := by
  unfold takeC at h
  by_cases h1 : (m : Int) < 1
  · rw [if_pos h1] at h; omega
  · rw [if_neg h1, Int.toNat_natCast] at h
    cases hp : takeP F m with
    | none => rw [hp] at h; simp at h
    | some p =>
      have := List.find?_some hp
      unfold fitsB at this
      rw [Bool.and_eq_true, decide_eq_true_iff] at this
      exact ⟨p, rfl, this.1, this.2, by omega⟩
theorem held_take {F : List Bool} {l : List Ext} {m : Nat} (h : Held F l (fun _ => False)) (hc : takeC F m = 0) : Held (takeF F m) (l ++ [takeX 0 F m]) (fun _ => False) := by
  obtain ⟨p, hp, hl, ha, hm⟩ := take_got hc
  have h1 : ¬ (m : Int) < 1 := by omega
  have hX : takeX 0 F m = ((p : Int), (m : Int)) := by rw [takeX, if_neg h1, Int.toNat_natCast, hp]; simp
  have hF : takeF F m = setR F p m false := by rw [takeF, if_neg h1, Int.toNat_natCast, hp]
  rw [hX, hF]
  have hall : ∀ x, inE x ((p : Int), (m : Int)) → freeB 0 F x := by
    have e : ((p : Int) - 0).toNat = p := by omega
    refine (all_free (base := 0) (by show (0 : Int) ≤ p; omega)).1 ((allF_iff (by omega)).1 ?_)
    rw [e, Int.toNat_natCast]; exact ha
  have hset : ∀ x, freeB 0 (setR F p m false) x ↔ freeB 0 F x ∧ ¬ inE x ((p : Int), (m : Int)) := fun x => by
    have := free_set (base := 0) (F := F) (e := ((p : Int), (m : Int))) (b := false) (by show (0 : Int) ≤ p; omega) (by show (1 : Int) ≤ m; omega) (by show (p : Int) + m ≤ 0 + F.length; omega) x
    simpa using this
  refine ⟨fun q e hq => ?_, fun q r e f hq hr hne x hx hy => ?_, fun x => ?_⟩
  · rw [setR_len]
    rcases snoc_get hq with h2 | ⟨_, rfl⟩
    · exact h.fit q e h2
    · exact ⟨by show (0 : Int) ≤ p; omega, by show (1 : Int) ≤ m; omega, by show (p : Int) + m ≤ F.length; omega⟩
  · rcases snoc_get hq with h2 | ⟨h2, rfl⟩ <;> rcases snoc_get hr with h3 | ⟨h3, rfl⟩
    · exact h.apart q r e f h2 h3 hne x hx hy
    · exact ((h.free x).1 (hall x hy)).2 q e h2 id hx
    · exact ((h.free x).1 (hall x hx)).2 r f h3 id hy
    · omega
  · rw [hset, h.free, setR_len]
    constructor
    · rintro ⟨⟨h2, h3⟩, h4⟩
      refine ⟨h2, fun q e hq _ => ?_⟩
      rcases snoc_get hq with h5 | ⟨_, rfl⟩
      · exact h3 q e h5 id
      · exact h4
    · rintro ⟨h2, h3⟩
      refine ⟨⟨h2, fun q e hq _ => h3 q e ?_ id⟩, h3 l.length _ (by simp) id⟩
      rw [List.getElem?_append_left (List.getElem?_eq_some_iff.1 hq).1]; exact hq
theorem held_give {F : List Bool} {l : List Ext} {gone : Nat → Prop} {q : Nat} {e : Ext} (h : Held F l gone) (hq : l[q]? = some e) (hg : ¬ gone q) : giveC 0 F e.1 e.2 = 0 ∧ Held (giveF 0 F e.1 e.2) l (fun p => gone p ∨ p = q) := by
  obtain ⟨f1, f2, f3⟩ := h.fit q e hq
  have ho : oursB 0 F.length e.1 e.2 = true := by rw [oursB, decide_eq_true_iff]; omega
  have ha : allF F (e.1 - 0).toNat e.2.toNat false = true := by
    rw [allF_iff (by omega), all_used (e := (e.1, e.2)) f1 (by show e.1 + e.2 ≤ 0 + _; omega)]
    intro x hx hf
    exact ((h.free x).1 hf).2 q e hq hg hx
  have hF : giveF 0 F e.1 e.2 = setR F (e.1 - 0).toNat e.2.toNat true := by rw [giveF, ho, ha, if_pos ⟨rfl, rfl⟩]
  refine ⟨by rw [giveC, ho, ha]; rfl, ?_⟩
  have hset : ∀ x, freeB 0 (giveF 0 F e.1 e.2) x ↔ freeB 0 F x ∨ inE x e := fun x => by
    rw [hF]
    have := free_set (base := 0) (F := F) (e := e) (b := true) f1 f2 (by omega) x
    simpa using this
  refine ⟨fun p f hp => by rw [giveF_len]; exact h.fit p f hp, h.apart, fun x => ?_⟩
  rw [hset, h.free, giveF_len]
  constructor
  · rintro (⟨h2, h3⟩ | h2)
    · exact ⟨h2, fun p f hp hgp => h3 p f hp (fun hh => hgp (.inl hh))⟩
    · refine ⟨by unfold inE at h2; omega, fun p f hp hgp hx => ?_⟩
      exact h.apart q p e f hq hp (fun e1 => hgp (.inr e1.symm)) x h2 hx
  · rintro ⟨h2, h3⟩
    by_cases hx : inE x e
    · exact .inr hx
    · refine .inl ⟨h2, fun p f hp hgp hy => ?_⟩
      by_cases hpq : p = q
      · subst hpq; rw [hq] at hp; injection hp with hp; subst hp; exact hx hy
      · exact h3 p f hp (fun hh => by rcases hh with hh | hh; exact hgp hh; exact hpq hh) hy
theorem held_end {F : List Bool} {l : List Ext} {gone : Nat → Prop} (h : Held F l gone) (hg : ∀ p, p < l.length → gone p) : F = List.replicate F.length true := by
  apply List.ext_getElem?
  intro i
  rw [List.getElem?_replicate]
  by_cases hi : i < F.length
  · rw [if_pos hi]
    have := (h.free i).2 ⟨by omega, fun p e hp hgp => absurd (hg p (List.getElem?_eq_some_iff.1 hp).1) hgp⟩
    have e : ((i : Int) - 0).toNat = i := by omega
    have h2 := this.2
    rw [e] at h2
    exact h2
  · rw [if_neg hi, List.getElem?_eq_none (by omega)]

/-! The order in which they go. -/
def bi (L i t : Nat) : Nat := (L - 1 - i + t) % L
theorem bi_lt {L i t : Nat} (h : 0 < L) : bi L i t < L := Nat.mod_lt _ h
theorem mod_near {a b L : Nat} (h : a % L = b % L) (hab : a ≤ b) (hn : b - a < L) : a = b := by
  have h1 := Nat.sub_mod_eq_zero_of_mod_eq h.symm
  rw [Nat.mod_eq_of_lt hn] at h1
  omega
theorem bi_inj {L i j t : Nat} (hi : i < L) (hj : j < L) (h : bi L i t = bi L j t) : i = j := by
  unfold bi at h
  rcases Nat.le_total i j with hij | hij
  · have := mod_near h.symm (by omega) (by omega); omega
  · have := mod_near h (by omega) (by omega); omega
theorem bi_onto {L p t : Nat} (hp : p < L) : ∃ i, i < L ∧ bi L i t = p := by
  refine ⟨(L - 1 + t + (L - p)) % L, Nat.mod_lt _ (by omega), ?_⟩
  have hd := Nat.div_add_mod (L - 1 + t + (L - p)) L
  have hi : (L - 1 + t + (L - p)) % L < L := Nat.mod_lt _ (by omega)
  obtain ⟨i, hie⟩ : ∃ i, i = (L - 1 + t + (L - p)) % L := ⟨_, rfl⟩
  obtain ⟨c, hc⟩ : ∃ c, c = (L - 1 + t + (L - p)) / L := ⟨_, rfl⟩
  rw [← hie, ← hc] at hd
  rw [← hie] at hi ⊢
  obtain ⟨M, hM⟩ : ∃ M, M = L * c := ⟨_, rfl⟩
  have hM2 : L * c = M := hM.symm
  rw [hM2] at hd
  unfold bi
  have hLM : L ≤ M := by
    have hc1 : 1 ≤ c := by rw [hc]; exact (Nat.le_div_iff_mul_le (by omega)).2 (by omega)
    rw [hM]; exact Nat.le_mul_of_pos_right L hc1
  have e : L - 1 - i + t + L = p + M := by omega
  have e2 : (L - 1 - i + t) % L = (p + M) % L := by rw [← e, Nat.add_mod_right]
  rw [e2, hM, Nat.add_mul_mod_self_left, Nat.mod_eq_of_lt hp]
end Go.Proofs.Ytheiodnckjmieaa
