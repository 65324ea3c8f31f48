/- Two rows of things, plain: what the calls make of them. -/
import Derived.Lib.Hide
namespace Go.Proofs.Ytdoepjokaekckaa
set_option linter.unusedVariables false

/-- A key and its bytes. -/
abbrev Pt := Int × Int
def sumP : List Pt → Int
  | [] => 0
  | t :: r => t.2 + sumP r
def isK (x : Int) (t : Pt) : Bool := t.1 == x
def hasK (l : List Pt) (x : Int) : Bool := l.any (isK x)
def delK (l : List Pt) (x : Int) : List Pt := l.eraseP (isK x)
def atK (l : List Pt) (x : Int) : Int := match l.find? (isK x) with | some t => t.2 | none => 0
def keysP (l : List Pt) : List Int := l.map (·.1)
def spill (most : Int) : List Pt → List Pt → List Pt × List Pt
  | T, [] => (T, [])
  | T, v :: K => if most < sumP (v :: K) then spill most (T ++ [v]) K else (T, v :: K)
def addC (T K : List Pt) (x n : Int) : Int := if n < 1 ∨ 1099511627776 < n then 1 else if hasK T x || hasK K x then 7 else 0
def addT (T K : List Pt) (x n : Int) : List Pt := if addC T K x n = 0 then T ++ [(x, n)] else T
def touchS (most : Int) (T K : List Pt) (x : Int) : List Pt × List Pt := if hasK (T ++ K) x then spill most (delK T x) (delK K x ++ [(x, atK (T ++ K) x)]) else (T, K)
def dropS (T K : List Pt) (x : Int) : List Pt × List Pt := (delK T x, delK K x)
/-- What the document's rows always are. -/
structure Inv (most : Int) (T K : List Pt) : Prop where
  nodup : (keysP (T ++ K)).Nodup
  bytes : ∀ t ∈ T ++ K, 1 ≤ t.2 ∧ t.2 ≤ 1099511627776
  kept : sumP K ≤ most
  range : ∀ t ∈ T ++ K, -9223372036854775808 ≤ t.1 ∧ t.1 ≤ 9223372036854775807

theorem sumP_append (a b : List Pt) : sumP (a ++ b) = sumP a + sumP b := by
  induction a with
  | nil => simp [sumP]
  | cons t r ih => simp [sumP, ih]; omega
theorem keysP_append (a b : List Pt) : keysP (a ++ b) = keysP a ++ keysP b := by simp [keysP]
theorem hasK_append (a b : List Pt) (x : Int) : hasK (a ++ b) x = (hasK a x || hasK b x) := by simp [hasK]
theorem hasK_iff {l : List Pt} {x : Int} : hasK l x = true ↔ x ∈ keysP l := by
  simp only [hasK, isK, keysP, List.any_eq_true, beq_iff_eq, List.mem_map]
theorem hasK_not {l : List Pt} {x : Int} : hasK l x = false ↔ x ∉ keysP l := by rw [← hasK_iff]; simp
theorem hasK_false {l : List Pt} {x : Int} : hasK l x = false ↔ ∀ t ∈ l, isK x t = false := by
  simp [hasK]
theorem delK_none {l : List Pt} {x : Int} (h : hasK l x = false) : delK l x = l := by
  unfold delK
  exact List.eraseP_of_forall_not fun t ht => by rw [hasK_false.1 h t ht]; simp
theorem delK_split {A B : List Pt} {t : Pt} (h : hasK A t.1 = false) : delK (A ++ t :: B) t.1 = A ++ B := by
  unfold delK
  rw [List.eraseP_append_right _ (fun u hu => by rw [hasK_false.1 h u hu]; simp), List.eraseP_cons_of_pos (by simp [isK])]
theorem hasK_split {l : List Pt} {x : Int} (h : hasK l x = true) : ∃ A n B, l = A ++ (x, n) :: B ∧ hasK A x = false := by
  induction l with
  | nil => simp [hasK] at h
  | cons t r ih =>
    by_cases e : t.1 = x
    · subst e
      exact ⟨[], t.2, r, rfl, rfl⟩
    · have h' : hasK r x = true := by simpa [hasK, isK, e] using h
      obtain ⟨A, n, B, rfl, hA⟩ := ih h'
      exact ⟨t :: A, n, B, rfl, by
        simp only [hasK, List.any_cons, Bool.or_eq_false_iff] at hA ⊢
        exact ⟨by simp [isK, e], hA⟩⟩
theorem atK_split {A B : List Pt} {t : Pt} (h : hasK A t.1 = false) : atK (A ++ t :: B) t.1 = t.2 := by
  unfold atK
  rw [List.find?_append, List.find?_eq_none.2 (fun u hu => by rw [hasK_false.1 h u hu]; simp)]
  simp [isK]
theorem atK_left {a b : List Pt} {x : Int} (h : hasK a x = true) : atK (a ++ b) x = atK a x := by
  obtain ⟨A, n, B, rfl, hA⟩ := hasK_split h
  rw [List.append_assoc, List.cons_append, atK_split (t := (x, n)) hA, atK_split (t := (x, n)) hA]
theorem atK_right {a b : List Pt} {x : Int} (h : hasK a x = false) : atK (a ++ b) x = atK b x := by
  unfold atK
  rw [List.find?_append, List.find?_eq_none.2 (fun u hu => by rw [hasK_false.1 h u hu]; simp)]
  rfl
theorem atK_none {l : List Pt} {x : Int} (h : hasK l x = false) : atK l x = 0 := by
  unfold atK
  rw [List.find?_eq_none.2 (fun u hu => by rw [hasK_false.1 h u hu]; simp)]
theorem sum_nonneg {l : List Pt} (h : ∀ t ∈ l, 1 ≤ t.2) : 0 ≤ sumP l := by
  induction l with
  | nil => simp [sumP]
  | cons t r ih =>
    have := h t (by simp)
    have := ih fun u hu => h u (by simp [hu])
    simp only [sumP]; omega
theorem sum_le {l : List Pt} (h : ∀ t ∈ l, t.2 ≤ 1099511627776) : sumP l ≤ 1099511627776 * (l.length : Int) := by
  induction l with
  | nil => simp [sumP]
  | cons t r ih =>
    have := h t (by simp)
    have := ih fun u hu => h u (by simp [hu])
    simp only [sumP, List.length_cons]; omega

/-- What spilling leaves: from the back on so many have gone over. -/
theorem spill_split (most : Int) : ∀ (K T : List Pt), ∃ A B, K = A ++ B ∧ spill most T K = (T ++ A, B) ∧ (B = [] ∨ sumP B ≤ most)
  | [], T => ⟨[], [], rfl, by simp [spill], .inl rfl⟩
  | v :: K, T => by
    by_cases h : most < sumP (v :: K)
    · obtain ⟨A, B, h1, h2, h3⟩ := spill_split most K (T ++ [v])
      exact ⟨v :: A, B, by rw [h1]; rfl, by rw [spill, if_pos h, h2]; simp, h3⟩
    · exact ⟨[], v :: K, rfl, by rw [spill, if_neg h]; simp, .inr (by omega)⟩
theorem spill_last (most : Int) (v : Pt) (hv : v.2 ≤ most) : ∀ (K T : List Pt), ∃ A B, K = A ++ B ∧ spill most T (K ++ [v]) = (T ++ A, B ++ [v])
  | [], T => ⟨[], [], rfl, by
    have h : ¬ most < sumP [v] := by simp [sumP]; omega
    show spill most T [v] = _
    rw [spill, if_neg h]; simp⟩
  | u :: K, T => by
    by_cases h : most < sumP (u :: (K ++ [v]))
    · obtain ⟨A, B, h1, h2⟩ := spill_last most v hv K (T ++ [u])
      exact ⟨u :: A, B, by rw [h1]; rfl, by rw [List.cons_append, spill, if_pos h, h2]; simp⟩
    · exact ⟨[], u :: K, rfl, by rw [List.cons_append, spill, if_neg h]; simp⟩
theorem spill_all (most : Int) (v : Pt) (hv : most < v.2) : ∀ (K T : List Pt), (∀ t ∈ K, 1 ≤ t.2) → spill most T (K ++ [v]) = (T ++ K ++ [v], [])
  | [], T, _ => by
    have h : most < sumP [v] := by simp [sumP]; omega
    show spill most T [v] = _
    rw [spill, if_pos h]; simp [spill]
  | u :: K, T, hk => by
    have h0 := sum_nonneg hk
    have h : most < sumP (u :: (K ++ [v])) := by
      have e : u :: (K ++ [v]) = (u :: K) ++ [v] := rfl
      rw [e, sumP_append]; simp [sumP] at h0 ⊢; omega
    rw [List.cons_append, spill, if_pos h, spill_all most v hv K (T ++ [u]) fun t ht => hk t (by simp [ht])]
    simp

section
variable {most : Int} {T K : List Pt} {x n : Int}
theorem add_ok (h : addC T K x n = 0) : 1 ≤ n ∧ n ≤ 1099511627776 ∧ hasK T x = false ∧ hasK K x = false := by
  unfold addC at h
  split at h
  · cases h
  · split at h
    · cases h
    · rename_i h1 h2
      simp at h2
      exact ⟨by omega, by omega, h2.1, h2.2⟩
theorem inv_empty (h : 0 ≤ most) : Inv most [] [] := ⟨by simp [keysP], by simp, by simpa [sumP] using h, by simp⟩
theorem inv_add (h : Inv most T K) {x : Int} (hx : -9223372036854775808 ≤ x ∧ x ≤ 9223372036854775807) (n : Int) : Inv most (addT T K x n) K := by
  unfold addT
  by_cases e : addC T K x n = 0
  · rw [if_pos e]
    obtain ⟨h1, h2, h3, h4⟩ := add_ok e
    refine ⟨?_, fun t ht => ?_, h.kept, fun t ht => ?_⟩
    · have hn := h.nodup
      rw [keysP_append, List.nodup_append] at hn
      rw [keysP_append, keysP_append, List.nodup_append, List.nodup_append]
      refine ⟨⟨hn.1, by simp [keysP], fun a ha b hb => ?_⟩, hn.2.1, fun a ha b hb => ?_⟩
      · simp [keysP] at hb
        subst hb
        rintro rfl
        exact hasK_not.1 h3 ha
      · rcases List.mem_append.1 ha with ha | ha
        · exact hn.2.2 a ha b hb
        · simp [keysP] at ha
          subst ha
          rintro rfl
          exact hasK_not.1 h4 hb
    · simp only [List.mem_append, List.mem_singleton] at ht
      rcases ht with (ht | ht) | ht
      · exact h.bytes t (by simp [ht])
      · subst ht; exact ⟨h1, h2⟩
      · exact h.bytes t (by simp [ht])
    · simp only [List.mem_append, List.mem_singleton] at ht
      rcases ht with (ht | ht) | ht
      · exact h.range t (by simp [ht])
      · subst ht; exact hx
      · exact h.range t (by simp [ht])
  · rw [if_neg e]; exact h
theorem delK_sub (l : List Pt) (x : Int) : (delK l x).Sublist l := List.eraseP_sublist
theorem sum_del (h : ∀ t ∈ K, 1 ≤ t.2) (x : Int) : sumP (delK K x) ≤ sumP K := by
  cases hk : hasK K x with
  | false => rw [delK_none hk]; omega
  | true =>
    obtain ⟨A, n, B, rfl, hA⟩ := hasK_split hk
    rw [delK_split (t := (x, n)) hA, sumP_append, sumP_append]
    have := h (x, n) (by simp)
    simp only [sumP] at this ⊢
    omega
theorem keys_del (h : (keysP (T ++ K)).Nodup) (x : Int) : x ∉ keysP (delK T x ++ delK K x) := by
  rw [keysP_append] at h ⊢
  have hh := List.nodup_append.1 h
  have one : ∀ l : List Pt, (keysP l).Nodup → x ∉ keysP (delK l x) := fun l hl => by
    cases hk : hasK l x with
    | false => rw [delK_none hk]; exact hasK_not.1 hk
    | true =>
      obtain ⟨A, n, B, rfl, hA⟩ := hasK_split hk
      rw [delK_split (t := (x, n)) hA]
      rw [keysP_append] at hl ⊢
      have h1 := List.nodup_append.1 hl
      intro hx
      rcases List.mem_append.1 hx with hx | hx
      · exact hasK_not.1 hA hx
      · have := h1.2.1
        simp only [keysP, List.map_cons, List.nodup_cons] at this
        exact this.1 hx
  intro hx
  rcases List.mem_append.1 hx with hx | hx
  · exact one T hh.1 hx
  · exact one K hh.2.1 hx
theorem inv_drop (h : Inv most T K) (x : Int) : Inv most (delK T x) (delK K x) := by
  have hs : (delK T x ++ delK K x).Sublist (T ++ K) := (delK_sub T x).append (delK_sub K x)
  refine ⟨h.nodup.sublist (hs.map _), fun t ht => h.bytes t (hs.subset ht), ?_, fun t ht => h.range t (hs.subset ht)⟩
  have := sum_del (K := K) (fun t ht => (h.bytes t (by simp [ht])).1) x
  have := h.kept
  omega
theorem atK_bytes (h : Inv most T K) (hx : hasK (T ++ K) x = true) : 1 ≤ atK (T ++ K) x ∧ atK (T ++ K) x ≤ 1099511627776 := by
  obtain ⟨A, n, B, he, hA⟩ := hasK_split hx
  rw [he, atK_split (t := (x, n)) hA]
  exact h.bytes (x, n) (by rw [he]; simp)
theorem inv_touch (h : Inv most T K) (h0 : 0 ≤ most) (x : Int) : Inv most (touchS most T K x).1 (touchS most T K x).2 := by
  unfold touchS
  cases hx : hasK (T ++ K) x with
  | false => simpa using h
  | true =>
    simp only [if_true]
    obtain ⟨A, B, h1, h2, h3⟩ := spill_split most (delK K x ++ [(x, atK (T ++ K) x)]) (delK T x)
    rw [h2]
    have hd := inv_drop h x
    have hk := keys_del h.nodup x
    have hb := atK_bytes h hx
    have e : (delK T x ++ A) ++ B = (delK T x ++ delK K x) ++ [(x, atK (T ++ K) x)] := by rw [List.append_assoc, ← h1, List.append_assoc]
    refine ⟨?_, fun t ht => ?_, ?_, fun t ht => ?_⟩
    · show (keysP ((delK T x ++ A) ++ B)).Nodup
      rw [e, keysP_append, List.nodup_append]
      refine ⟨hd.nodup, by simp [keysP], fun a ha b hb => ?_⟩
      simp [keysP] at hb
      subst hb
      rintro rfl
      exact hk ha
    · have ht' : t ∈ (delK T x ++ A) ++ B := ht
      rw [e] at ht'
      rcases List.mem_append.1 ht' with ht | ht
      · exact hd.bytes t ht
      · simp at ht; subst ht; exact hb
    · rcases h3 with h3 | h3
      · show sumP B ≤ most
        rw [h3]; simpa [sumP] using h0
      · exact h3
    · have ht' : t ∈ (delK T x ++ A) ++ B := ht
      rw [e] at ht'
      rcases List.mem_append.1 ht' with ht | ht
      · exact hd.range t ht
      · simp at ht; subst ht
        obtain ⟨u, hu, e2⟩ := List.mem_map.1 (hasK_iff.1 hx)
        have := h.range u hu
        simp only at e2 ⊢
        omega
theorem touch_len (most : Int) (T K : List Pt) (x : Int) : (touchS most T K x).1.length + (touchS most T K x).2.length ≤ T.length + K.length + 1 := by
  unfold touchS
  split
  · obtain ⟨A, B, h1, h2, h3⟩ := spill_split most (delK K x ++ [(x, atK (T ++ K) x)]) (delK T x)
    rw [h2]
    have e := congrArg List.length h1
    have := (delK_sub T x).length_le
    have := (delK_sub K x).length_le
    simp at e ⊢
    omega
  · simp
end
end Go.Proofs.Ytdoepjokaekckaa
