/- Plain law of extents: taking, giving; the reference's list of Bools. -/
import Derived.Test.YtheiodnckjmieaaEa
namespace Go.Proofs.Ytheiodnckjmieaa
set_option linter.unusedVariables false

def endOf (lo : Int) (a : List Ext) : Int := a.foldl (fun _ e => e.1 + e.2 + 1) lo
theorem endOf_nil (lo : Int) : endOf lo [] = lo := rfl
theorem endOf_snoc (lo : Int) (a : List Ext) (p : Ext) : endOf lo (a ++ [p]) = p.1 + p.2 + 1 := by simp [endOf]
theorem endOf_cons (lo : Int) (p : Ext) (a : List Ext) : endOf lo (p :: a) = endOf (p.1 + p.2 + 1) a := rfl
theorem norm_app {hi lo : Int} {a b : List Ext} : Norm hi lo (a ++ b) ↔ Norm hi lo a ∧ Norm hi (endOf lo a) b := norm_append
theorem end_ge {hi : Int} : ∀ {a : List Ext} {lo : Int}, Norm hi lo a → lo ≤ endOf lo a ∧ ∀ x, Mem x a → x + 2 ≤ endOf lo a
  | [], lo, _ => ⟨Int.le_refl _, fun x h => absurd h (mem_nil x)⟩
  | e :: r, lo, h => by
    have ih := end_ge h.2.2.2
    have h1 := h.1
    have h2 := h.2.1
    rw [endOf_cons]
    refine ⟨by omega, fun x hx => ?_⟩
    rcases mem_cons.1 hx with a | a
    · unfold inE at a; omega
    · exact ih.2 x a
theorem norm_raise {hi lo lo' : Int} {r : List Ext} (h : Norm hi lo r) (hq : ∀ q ∈ r.head?, lo' ≤ q.1) : Norm hi lo' r := by
  cases r with
  | nil => trivial
  | cons q r => exact ⟨hq q (by simp), h.2⟩

/-- What is left of a free extent. -/
def leftF (f e : Ext) : List Ext := (if f.1 < e.1 then [(f.1, e.1 - f.1)] else []) ++ (if e.1 + e.2 < f.1 + f.2 then [(e.1 + e.2, f.1 + f.2 - (e.1 + e.2))] else [])
theorem mem_left {f e : Ext} (h1 : f.1 ≤ e.1) (h2 : 1 ≤ e.2) (h3 : e.1 + e.2 ≤ f.1 + f.2) (x : Int) : Mem x (leftF f e) ↔ inE x f ∧ ¬ inE x e := by
  have s : ∀ (p : Ext), Mem x [p] ↔ inE x p := fun p => by rw [mem_cons]; exact ⟨fun h => h.elim id (fun h => absurd h (mem_nil x)), .inl⟩
  have n : Mem x [] ↔ False := ⟨fun h => mem_nil x h, False.elim⟩
  unfold leftF
  rw [mem_append]
  by_cases a : f.1 < e.1 <;> by_cases b : e.1 + e.2 < f.1 + f.2
  · rw [if_pos a, if_pos b, s, s]; simp only [inE]; constructor <;> intro h <;> omega
  · rw [if_pos a, if_neg b, s, n]; simp only [inE, or_false]; constructor <;> intro h <;> omega
  · rw [if_neg a, if_pos b, n, s]; simp only [inE, false_or]; constructor <;> intro h <;> omega
  · rw [if_neg a, if_neg b, n]; simp only [inE, or_self, false_iff]; omega
theorem take_norm {hi lo : Int} {a r : List Ext} {f e : Ext} (h : Norm hi lo (a ++ f :: r)) (h1 : f.1 ≤ e.1) (h2 : 1 ≤ e.2) (h3 : e.1 + e.2 ≤ f.1 + f.2) :
    Norm hi lo (a ++ (leftF f e ++ r)) ∧ ∀ x, Mem x (a ++ (leftF f e ++ r)) ↔ Mem x (a ++ f :: r) ∧ ¬ inE x e := by
  rw [norm_app] at h
  obtain ⟨ha, g1, g2, g3, g4⟩ := h
  have he := end_ge ha
  constructor
  · rw [norm_app]
    refine ⟨ha, ?_⟩
    unfold leftF
    by_cases a : f.1 < e.1 <;> by_cases b : e.1 + e.2 < f.1 + f.2
    · rw [if_pos a, if_pos b]
      refine ⟨g1, by simp only; omega, by simp only; omega, by simp only; omega, by simp only; omega, by simp only; omega, ?_⟩
      exact g4.lower (by simp only; omega)
    · rw [if_pos a, if_neg b]
      refine ⟨g1, by simp only; omega, by simp only; omega, ?_⟩
      exact g4.lower (by simp only; omega)
    · rw [if_neg a, if_pos b]
      refine ⟨by simp only; omega, by simp only; omega, by simp only; omega, ?_⟩
      exact g4.lower (by simp only; omega)
    · rw [if_neg a, if_neg b]
      exact g4.lower (by omega)
  · intro x
    rw [mem_append, mem_append, mem_left h1 h2 h3, mem_append, mem_cons]
    constructor
    · rintro (h | ⟨h, hn⟩ | h)
      · refine ⟨.inl h, fun hx => ?_⟩
        have := he.2 x h; unfold inE at hx; omega
      · exact ⟨.inr (.inl h), hn⟩
      · refine ⟨.inr (.inr h), fun hx => ?_⟩
        have := g4.mem h; unfold inE at hx; omega
    · rintro ⟨h | h | h, hn⟩
      · exact .inl h
      · exact .inr (.inl ⟨h, hn⟩)
      · exact .inr (.inr h)

/-- A given extent comes in between, and is joined to what it touches: 'm' is what it is joined to. -/
theorem give_norm {hi lo : Int} {a m r : List Ext} {e e' : Ext} (h : Norm hi lo (a ++ (m ++ r))) (h1 : endOf lo a ≤ e'.1) (h2 : 1 ≤ e'.2) (h3 : e'.1 + e'.2 ≤ hi) (h4 : ∀ q ∈ r.head?, e'.1 + e'.2 + 1 ≤ q.1)
    (hm : ∀ x, inE x e' ↔ Mem x m ∨ inE x e) : Norm hi lo (a ++ e' :: r) ∧ ∀ x, Mem x (a ++ e' :: r) ↔ Mem x (a ++ (m ++ r)) ∨ inE x e := by
  rw [norm_app, norm_app] at h
  refine ⟨norm_app.2 ⟨h.1, h1, h2, h3, norm_raise h.2.2 h4⟩, fun x => ?_⟩
  rw [mem_append, mem_append, mem_append, mem_cons, hm]
  constructor
  · rintro (h | (h | h) | h)
    · exact .inl (.inl h)
    · exact .inl (.inr (.inl h))
    · exact .inr h
    · exact .inl (.inr (.inr h))
  · rintro ((h | h | h) | h)
    · exact .inl h
    · exact .inr (.inl (.inl h))
    · exact .inr (.inr h)
    · exact .inr (.inl (.inr h))

/-! The reference: of each sector whether it is free. -/
def freeB (base : Int) (F : List Bool) (x : Int) : Prop := base ≤ x ∧ F[(x - base).toNat]? = some true
theorem freeB_lt {base : Int} {F : List Bool} {x : Int} (h : freeB base F x) : x < base + F.length := by
  have := (List.getElem?_eq_some_iff.1 h.2).1
  have := h.1
  omega
/-- Sectors made free, or not. -/
def setR (F : List Bool) (p n : Nat) (b : Bool) : List Bool := F.mapIdx fun i c => if p ≤ i ∧ i < p + n then b else c
theorem setR_len (F : List Bool) (p n : Nat) (b : Bool) : (setR F p n b).length = F.length := by simp [setR]
theorem setR_zero (F : List Bool) (p : Nat) (b : Bool) : setR F p 0 b = F := by
  apply List.ext_getElem?
  intro i
  simp only [setR, List.getElem?_mapIdx]
  cases F[i]? with
  | none => rfl
  | some c => simp; intros; omega
theorem setR_at (F : List Bool) (p n : Nat) (b : Bool) (i : Nat) : (setR F p n b)[i]? = if p ≤ i ∧ i < p + n then (if i < F.length then some b else none) else F[i]? := by
  simp only [setR, List.getElem?_mapIdx]
  by_cases h : i < F.length
  · rw [List.getElem?_eq_getElem h]
    by_cases c : p ≤ i ∧ i < p + n <;> simp [c, h]
  · rw [List.getElem?_eq_none (by omega)]
    by_cases c : p ≤ i ∧ i < p + n <;> simp [c, h]
theorem setR_step (F : List Bool) (p n : Nat) (b : Bool) (h : p + n < F.length) : (setR F p n b).set (p + n) b = setR F p (n + 1) b := by
  apply List.ext_getElem?
  intro i
  rw [List.getElem?_set, setR_at, setR_at, setR_len]
  by_cases e : p + n = i
  · subst e
    rw [if_pos rfl, if_pos h, if_pos (by omega)]
  · rw [if_neg e]
    by_cases c : p ≤ i ∧ i < p + n
    · have c2 : p ≤ i ∧ i < p + (n + 1) := by omega
      have hi : i < F.length := by omega
      rw [if_pos c, if_pos c2]
    · rw [if_neg c, if_neg (by omega)]
theorem free_set {base : Int} {F : List Bool} {e : Ext} {b : Bool} (h1 : base ≤ e.1) (h2 : 1 ≤ e.2) (h3 : e.1 + e.2 ≤ base + F.length) (x : Int) : freeB base (setR F (e.1 - base).toNat e.2.toNat b) x ↔ if b then (freeB base F x ∨ inE x e) else (freeB base F x ∧ ¬ inE x e) := by
  unfold freeB inE
  rw [setR_at]
  by_cases c : (e.1 - base).toNat ≤ (x - base).toNat ∧ (x - base).toNat < (e.1 - base).toNat + e.2.toNat
  · rw [if_pos c]
    have hl : (x - base).toNat < F.length := by omega
    rw [if_pos hl]
    cases b
    · simp
      intros
      omega
    · simp
      constructor
      · intro hb; right; omega
      · rintro (h | h)
        · exact h.1
        · omega
  · rw [if_neg c]
    cases b
    · simp
      intros
      omega
    · simp
      intro a b
      exfalso
      omega

/-- The map's list of extents and the reference's list of Bools say the same. -/
structure Same (base : Int) (F : List Bool) (fs : List Ext) : Prop where
  norm : Norm (base + F.length) base fs
  mem : ∀ x, Mem x fs ↔ freeB base F x
theorem Same.set {base : Int} {F : List Bool} {fs gs : List Ext} {e : Ext} {b : Bool} (h : Same base F fs) (h1 : base ≤ e.1) (h2 : 1 ≤ e.2) (h3 : e.1 + e.2 ≤ base + F.length) (hn : Norm (base + F.length) base gs)
    (hm : ∀ x, Mem x gs ↔ if b then (Mem x fs ∨ inE x e) else (Mem x fs ∧ ¬ inE x e)) : Same base (setR F (e.1 - base).toNat e.2.toNat b) gs := by
  refine ⟨by rw [setR_len]; exact hn, fun x => ?_⟩
  rw [hm, free_set h1 h2 h3]
  cases b <;> simp [h.mem]
/-- All sectors of an extent are free (or none is). -/
def allB (base : Int) (F : List Bool) (e : Ext) (b : Bool) : Prop := ∀ k : Nat, (k : Int) < e.2 → F[(e.1 - base).toNat + k]? = some b
instance (base : Int) (F : List Bool) (e : Ext) (b : Bool) : Decidable (allB base F e b) :=
  decidable_of_iff (∀ k : Nat, k < e.2.toNat → F[(e.1 - base).toNat + k]? = some b) ⟨fun h k hk => h k (by omega), fun h k hk => h k (by omega)⟩
theorem all_free {base : Int} {F : List Bool} {e : Ext} (h1 : base ≤ e.1) : allB base F e true ↔ ∀ x, inE x e → freeB base F x := by
  constructor
  · intro h x hx
    unfold inE at hx
    refine ⟨by omega, ?_⟩
    have := h (x - e.1).toNat (by omega)
    have e2 : (e.1 - base).toNat + (x - e.1).toNat = (x - base).toNat := by omega
    rw [e2] at this
    exact this
  · intro h k hk
    have := (h (e.1 + k) (by unfold inE; omega)).2
    have e2 : (e.1 + k - base).toNat = (e.1 - base).toNat + k := by omega
    rw [e2] at this
    exact this
theorem all_used {base : Int} {F : List Bool} {e : Ext} (h1 : base ≤ e.1) (h3 : e.1 + e.2 ≤ base + F.length) : allB base F e false ↔ ∀ x, inE x e → ¬ freeB base F x := by
  constructor
  · intro h x hx hf
    unfold inE at hx
    have := h (x - e.1).toNat (by omega)
    have e2 : (e.1 - base).toNat + (x - e.1).toNat = (x - base).toNat := by omega
    rw [e2, hf.2] at this
    cases this
  · intro h k hk
    have hl : (e.1 - base).toNat + k < F.length := by omega
    have hn := h (e.1 + k) (by unfold inE; omega)
    have e2 : (e.1 + k - base).toNat = (e.1 - base).toNat + k := by omega
    unfold freeB at hn
    rw [e2, List.getElem?_eq_getElem hl] at hn
    rw [List.getElem?_eq_getElem hl]
    cases hb : F[(e.1 - base).toNat + k]
    · rfl
    · rw [hb] at hn
      exact absurd ⟨by omega, rfl⟩ hn
end Go.Proofs.Ytheiodnckjmieaa
