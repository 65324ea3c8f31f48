/- Points of a ring, in plain words: their order. -/
import Derived.Test.YtpapfnfdaklnlaaDoorRc
import Derived.Sort.Walk0
import Derived.Sort.Statements
import Derived.Shelf.SlSortCmp.InsertionK
namespace Go.Proofs.YtpapfnfdaklnlaaDoor
set_option linter.unusedVariables false
open Go.RowKit Go.Sort

theorem bl_lt (a b : List UInt8) : (Op.bytesLess a b = true) ↔ a < b := by rw [bytesLess_eq]; simp
theorem l_irrefl (a : List UInt8) : ¬ a < a := List.lt_irrefl a
theorem l_trans {a b c : List UInt8} (h : a < b) (k : b < c) : a < c := List.lt_trans h k
theorem l_tri (a b : List UInt8) (h : ¬ a < b) (k : ¬ b < a) : a = b := List.le_antisymm (List.not_lt.mp k) (List.not_lt.mp h)

theorem bytes_inj {a b : ByteArray} (h : a.toList = b.toList) : a = b := by
  rw [ByteArray.toList_eq, ByteArray.toList_eq] at h
  cases a; cases b
  simp only at h
  rw [Array.toList_inj.mp h]

def Pb (x y : Int × ByteArray) : Prop := x.1 < y.1 ∨ (x.1 = y.1 ∧ x.2.toList < y.2.toList)
theorem cmpP_neg (x y : Int × ByteArray) : cmpP x y < 0 ↔ Pb x y := by
  unfold cmpP orI cmpU Pb
  rcases Int.lt_trichotomy x.1 y.1 with h | h | h
  · simp [h]
  · have h1 : ¬ x.1 < y.1 := by omega
    have h2 : ¬ y.1 < x.1 := by omega
    simp only [if_neg h1, if_neg h2, if_true]
    unfold cmpS
    by_cases hb : Op.bytesLess x.2.toList y.2.toList = true
    · simp [hb, h, (bl_lt _ _).1 hb]
    · have hn : ¬ x.2.toList < y.2.toList := fun hh => hb ((bl_lt _ _).2 hh)
      rw [if_neg hb]
      constructor
      · intro hh; split at hh <;> omega
      · rintro (hh | ⟨_, hh⟩)
        · omega
        · exact absurd hh hn
  · have h1 : ¬ x.1 < y.1 := by omega
    simp only [if_neg h1, if_pos h]
    constructor
    · intro hh; simp at hh
    · rintro (hh | ⟨hh, _⟩) <;> omega
theorem ltP (x y : Int × ByteArray) : (ltOf cmpP x y = true) ↔ Pb x y := by rw [← cmpP_neg]; simp [ltOf]
theorem Pb.irrefl (x : Int × ByteArray) : ¬ Pb x x := by
  rintro (h | ⟨_, h⟩)
  · omega
  · exact l_irrefl _ h
theorem Pb.trans {x y z : Int × ByteArray} (h : Pb x y) (k : Pb y z) : Pb x z := by
  rcases h with h | ⟨h, h'⟩ <;> rcases k with k | ⟨k, k'⟩
  · exact .inl (by omega)
  · exact .inl (by omega)
  · exact .inl (by omega)
  · exact .inr ⟨by omega, l_trans h' k'⟩
theorem Pb.tri {x y : Int × ByteArray} (h : ¬ Pb x y) (k : ¬ Pb y x) : x = y := by
  have e1 : x.1 = y.1 := by
    rcases Int.lt_trichotomy x.1 y.1 with a | a | a
    · exact absurd (.inl a) h
    · exact a
    · exact absurd (.inl a) k
  have e2 : x.2.toList = y.2.toList := l_tri _ _ (fun a => h (.inr ⟨e1, a⟩)) (fun a => k (.inr ⟨e1.symm, a⟩))
  obtain ⟨x1, x2⟩ := x
  obtain ⟨y1, y2⟩ := y
  simp only at e1 e2
  rw [e1, bytes_inj e2]
theorem swoP : SWO (ltOf cmpP) where
  irrefl x := by
    cases h : ltOf cmpP x x with
    | false => rfl
    | true => exact absurd ((ltP _ _).1 h) (Pb.irrefl x)
  trans x y z h k := (ltP _ _).2 (Pb.trans ((ltP _ _).1 h) ((ltP _ _).1 k))
  ntrans x y z h k := by
    cases hh : ltOf cmpP x z with
    | false => rfl
    | true =>
      have hxz := (ltP _ _).1 hh
      have h1 : ¬ Pb x y := fun a => by rw [(ltP _ _).2 a] at h; cases h
      have h2 : ¬ Pb y z := fun a => by rw [(ltP _ _).2 a] at k; cases k
      by_cases a : Pb y x
      · exact absurd (Pb.trans a hxz) h2
      · have := Pb.tri h1 a; subst this; exact absurd hxz h2

/-- Rising by place, of those alike by name. -/
def Asc (L : List (Int × ByteArray)) : Prop := L.Pairwise fun x y => ¬ Pb y x
theorem asc_one {L M : List (Int × ByteArray)} (hp : L.Perm M) (hL : Asc L) (hM : Asc M) : L = M :=
  List.Perm.eq_of_pairwise (fun a b _ _ h k => Pb.tri k h) hL hM hp
/-- Who has what is at h: the name of the first point from h on, or else of the first. -/
def ownerL (L : List (Int × ByteArray)) (h : Int) : Option ByteArray := ((L.find? fun p => decide (h ≤ p.1)).or L.head?).map (·.2)
/-- Without the points of a name all is as it was ahead of them. -/
theorem asc_without {L N M : List (Int × ByteArray)} {m : ByteArray} (hp : M.Perm (L ++ N)) (hL : Asc L) (hM : Asc M) (h1 : ∀ p ∈ L, p.2 ≠ m) (h2 : ∀ p ∈ N, p.2 = m) : M.filter (fun p => decide (p.2 ≠ m)) = L := by
  have hq : (M.filter fun p => decide (p.2 ≠ m)).Perm ((L ++ N).filter fun p => decide (p.2 ≠ m)) := hp.filter _
  have e : (L ++ N).filter (fun p => decide (p.2 ≠ m)) = L := by
    rw [List.filter_append, List.filter_eq_self.2 (fun p hp => by simpa using h1 p hp), List.filter_eq_nil_iff.2 (fun p hp => by simpa using h2 p hp), List.append_nil]
  rw [e] at hq
  exact asc_one hq (List.Pairwise.sublist List.filter_sublist hM) hL
/-- With a name more an object goes to it, or stays. -/
theorem owner_more {L M : List (Int × ByteArray)} {m : ByteArray} (h : Int) (hf : M.filter (fun p => decide (p.2 ≠ m)) = L) {x : ByteArray} (hx : ownerL M h = some x) (hne : x ≠ m) : ownerL L h = some x := by
  have hfind : ∀ (q : Int × ByteArray → Bool) (K : List (Int × ByteArray)) p, K.find? q = some p → p.2 ≠ m → (K.filter fun p => decide (p.2 ≠ m)).find? q = some p := by
    intro q K
    induction K with
    | nil => intro p hp; simp at hp
    | cons k K ih =>
      intro p hp hm
      rw [List.find?_cons] at hp
      by_cases hk : q k = true
      · rw [hk] at hp
        simp only [Option.some.injEq] at hp
        subst hp
        simp [hm, hk]
      · simp only [Bool.not_eq_true] at hk
        rw [hk] at hp
        have := ih p hp hm
        by_cases hkm : k.2 = m
        · simpa [hkm] using this
        · simpa [hkm, hk] using this
  have hnone : ∀ (q : Int × ByteArray → Bool) (K : List (Int × ByteArray)), K.find? q = none → (K.filter fun p => decide (p.2 ≠ m)).find? q = none := by
    intro q K hK
    rw [List.find?_eq_none] at hK ⊢
    exact fun p hp => hK p (List.mem_filter.1 hp).1
  unfold ownerL at hx ⊢
  rw [← hf]
  cases hq : M.find? (fun p => decide (h ≤ p.1)) with
  | some p =>
    rw [hq] at hx
    simp at hx
    subst hx
    rw [hfind _ _ p hq hne]
    rfl
  | none =>
    rw [hq] at hx
    rw [hnone _ _ hq]
    cases M with
    | nil => simp at hx
    | cons k K =>
      simp at hx
      subst hx
      simp [hne]
end Go.Proofs.YtpapfnfdaklnlaaDoor
