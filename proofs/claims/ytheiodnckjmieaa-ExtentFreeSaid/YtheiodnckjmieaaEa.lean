/- Plain law of extents: rising lists of extents, none touching the next one, and what they mean sector by sector. -/
import Derived.Test.YtheiodnckjmieaaOwn
namespace Go.Proofs.Ytheiodnckjmieaa
set_option linter.unusedVariables false

abbrev Ext := Int × Int
/-- Rising, none touching the next one, within [lo, hi). -/
def Norm (hi : Int) : Int → List Ext → Prop
  | _, [] => True
  | lo, e :: r => lo ≤ e.1 ∧ 1 ≤ e.2 ∧ e.1 + e.2 ≤ hi ∧ Norm hi (e.1 + e.2 + 1) r
/-- A sector is one of an extent's. -/
def inE (x : Int) (e : Ext) : Prop := e.1 ≤ x ∧ x < e.1 + e.2
def Mem (x : Int) (fs : List Ext) : Prop := ∃ e ∈ fs, inE x e

theorem mem_nil (x : Int) : ¬ Mem x [] := by rintro ⟨e, h, _⟩; cases h
theorem mem_cons {x : Int} {e : Ext} {r : List Ext} : Mem x (e :: r) ↔ inE x e ∨ Mem x r := by
  constructor
  · rintro ⟨f, h, hi⟩
    rcases List.mem_cons.1 h with rfl | h
    · exact .inl hi
    · exact .inr ⟨f, h, hi⟩
  · rintro (h | ⟨f, h, hi⟩)
    · exact ⟨e, by simp, h⟩
    · exact ⟨f, by simp [h], hi⟩
theorem mem_append {x : Int} {a b : List Ext} : Mem x (a ++ b) ↔ Mem x a ∨ Mem x b := by
  constructor
  · rintro ⟨f, h, hi⟩
    rcases List.mem_append.1 h with h | h
    · exact .inl ⟨f, h, hi⟩
    · exact .inr ⟨f, h, hi⟩
  · rintro (⟨f, h, hi⟩ | ⟨f, h, hi⟩)
    · exact ⟨f, by simp [h], hi⟩
    · exact ⟨f, by simp [h], hi⟩
theorem Norm.lower {hi : Int} : ∀ {fs : List Ext} {lo lo' : Int}, Norm hi lo fs → lo' ≤ lo → Norm hi lo' fs
  | [], _, _, _, _ => trivial
  | _ :: _, _, _, h, hl => ⟨by have := h.1; omega, h.2⟩
theorem Norm.bounds {hi : Int} : ∀ {fs : List Ext} {lo : Int}, Norm hi lo fs → ∀ e ∈ fs, lo ≤ e.1 ∧ 1 ≤ e.2 ∧ e.1 + e.2 ≤ hi
  | [], _, _, e, h => by cases h
  | f :: r, lo, hn, e, h => by
    rcases List.mem_cons.1 h with rfl | h
    · exact ⟨hn.1, hn.2.1, hn.2.2.1⟩
    · have := Norm.bounds hn.2.2.2 e h
      have := hn.1; have := hn.2.1
      omega
theorem Norm.mem {hi lo x : Int} {fs : List Ext} (h : Norm hi lo fs) (hm : Mem x fs) : lo ≤ x ∧ x < hi := by
  obtain ⟨e, he, hi'⟩ := hm
  have := h.bounds e he
  unfold inE at hi'
  omega
/-- Two rising lists that hold the same sectors are one. -/
theorem Norm.uniq {hi : Int} : ∀ {fs gs : List Ext} {lo lo' : Int}, Norm hi lo fs → Norm hi lo' gs → (∀ x, Mem x fs ↔ Mem x gs) → fs = gs
  | [], [], _, _, _, _, _ => rfl
  | [], g :: r, _, _, _, hg, h => absurd ((h g.1).2 (mem_cons.2 (.inl ⟨by omega, by have := hg.2.1; omega⟩))) (mem_nil _)
  | f :: r, [], _, _, hf, _, h => absurd ((h f.1).1 (mem_cons.2 (.inl ⟨by omega, by have := hf.2.1; omega⟩))) (mem_nil _)
  | f :: r, g :: s, lo, lo', hf, hg, h => by
    have f1 := hf.2.1
    have g1 := hg.2.1
    have a1 : Mem f.1 (g :: s) := (h f.1).1 (mem_cons.2 (.inl ⟨by omega, by omega⟩))
    have b1 : Mem g.1 (f :: r) := (h g.1).2 (mem_cons.2 (.inl ⟨by omega, by omega⟩))
    have e1 : f.1 = g.1 := by
      rcases mem_cons.1 a1 with a | a
      · rcases mem_cons.1 b1 with b | b
        · unfold inE at a b; omega
        · have := hf.2.2.2.mem b; unfold inE at a; omega
      · have := hg.2.2.2.mem a
        rcases mem_cons.1 b1 with b | b
        · unfold inE at b; omega
        · have := hf.2.2.2.mem b; omega
    have key : ∀ {f g : Ext} {r s : List Ext} {hi : Int}, f.1 = g.1 → 1 ≤ f.2 → 1 ≤ g.2 → Norm hi (f.1 + f.2 + 1) r → Norm hi (g.1 + g.2 + 1) s → (∀ x, Mem x (f :: r) ↔ Mem x (g :: s)) → ¬ f.2 < g.2 := by
      intro f g r s hi e1 f1 g1 nf ng h hlt
      have := (h (f.1 + f.2)).2 (mem_cons.2 (.inl ⟨by omega, by omega⟩))
      rcases mem_cons.1 this with a | a
      · unfold inE at a; omega
      · have := nf.mem a; omega
    have e2 : f.2 = g.2 := by
      have k1 := key e1 f1 g1 hf.2.2.2 hg.2.2.2 h
      have k2 := key e1.symm g1 f1 hg.2.2.2 hf.2.2.2 (fun x => (h x).symm)
      omega
    have ef : f = g := Prod.ext e1 e2
    subst ef
    congr 1
    refine Norm.uniq hf.2.2.2 hg.2.2.2 fun x => ?_
    constructor
    · intro m
      rcases mem_cons.1 ((h x).1 (mem_cons.2 (.inr m))) with a | a
      · have := hf.2.2.2.mem m; unfold inE at a; omega
      · exact a
    · intro m
      rcases mem_cons.1 ((h x).2 (mem_cons.2 (.inr m))) with a | a
      · have := hg.2.2.2.mem m; unfold inE at a; omega
      · exact a
theorem norm_append {hi : Int} : ∀ {a : List Ext} {lo : Int} {b : List Ext}, Norm hi lo (a ++ b) ↔ Norm hi lo a ∧ Norm hi (a.foldl (fun _ e => e.1 + e.2 + 1) lo) b
  | [], lo, b => by simp [Norm]
  | e :: r, lo, b => by
    simp only [List.cons_append, Norm, List.foldl_cons, norm_append (a := r)]
    constructor
    · rintro ⟨h1, h2, h3, h4, h5⟩; exact ⟨⟨h1, h2, h3, h4⟩, h5⟩
    · rintro ⟨⟨h1, h2, h3, h4⟩, h5⟩; exact ⟨h1, h2, h3, h4, h5⟩
/-- All sectors from x on, n of them, within one extent. -/
theorem Norm.whole {hi : Int} : ∀ {fs : List Ext} {lo x n : Int}, Norm hi lo fs → 1 ≤ n → (∀ y, x ≤ y → y < x + n → Mem y fs) → ∃ e ∈ fs, e.1 ≤ x ∧ x + n ≤ e.1 + e.2
  | [], _, x, n, _, hn, h => absurd (h x (by omega) (by omega)) (mem_nil _)
  | f :: r, lo, x, n, hf, hn, h => by
    by_cases hx : x < f.1 + f.2
    · have h0 := h x (by omega) (by omega)
      rcases mem_cons.1 h0 with a | a
      · by_cases hy : x + n ≤ f.1 + f.2
        · exact ⟨f, by simp, a.1, hy⟩
        · have := h (f.1 + f.2) (by omega) (by omega)
          rcases mem_cons.1 this with b | b
          · unfold inE at b; omega
          · have := hf.2.2.2.mem b; omega
      · have := hf.2.2.2.mem a; omega
    · obtain ⟨e, he, h1⟩ := Norm.whole (x := x) (n := n) hf.2.2.2 hn (fun y h1 h2 => by
        rcases mem_cons.1 (h y h1 h2) with a | a
        · unfold inE at a; omega
        · exact a)
      exact ⟨e, by simp [he], h1⟩
end Go.Proofs.Ytheiodnckjmieaa
