/- The list in memory: two rows and a map; a thing on its way from row to row. -/
import Derived.Test.YtdoepjokaekckaaLm
import Derived.Test.YtdoepjokaekckaaLp
namespace Go.Proofs.Ytdoepjokaekckaa
set_option linter.unusedVariables false
open Go.RowKit

def prs (l : List Th) : List Pt := l.map (·.2)
theorem prs_append (a b : List Th) : prs (a ++ b) = prs a ++ prs b := by simp [prs]
theorem prs_cons (t : Th) (b : List Th) : prs (t :: b) = t.2 :: prs b := rfl
theorem prs_len (l : List Th) : (prs l).length = l.length := by simp [prs]
theorem sumT_prs (l : List Th) : sumT l = sumP (prs l) := by
  induction l with
  | nil => rfl
  | cons t r ih => rw [prs_cons]; simp only [sumT, sumP, ih]
/-- Which block a key's thing is. -/
def look (l : List Th) (x : Int) : Option Nat := (l.find? fun t => t.2.1 == x).map (·.1)
theorem look_cons (t : Th) (l : List Th) (x : Int) : look (t :: l) x = if x = t.2.1 then some t.1 else look l x := by
  unfold look
  by_cases h : x = t.2.1
  · subst h; simp
  · have : (t.2.1 == x) = false := by simpa using fun e => h e.symm
    simp [this, h]
theorem keys_prs (l : List Th) : keysP (prs l) = l.map fun t => t.2.1 := by simp [keysP, prs, Function.comp_def]
theorem nodup_of_perm {l l' : List Th} (h : l.Perm l') (hn : (keysP (prs l)).Nodup) : (keysP (prs l')).Nodup := by
  rw [keys_prs] at hn ⊢
  exact (h.map (fun t : Th => t.2.1)).nodup_iff.1 hn
theorem look_none {l : List Th} {x : Int} : look l x = none ↔ x ∉ keysP (prs l) := by
  unfold look
  rw [keys_prs, Option.map_eq_none_iff, List.find?_eq_none]
  constructor
  · intro h hx
    obtain ⟨t, ht, e⟩ := List.mem_map.1 hx
    exact h t ht (by simpa using e)
  · intro h t ht e
    exact h (List.mem_map.2 ⟨t, ht, by simpa using e⟩)
theorem look_has (l : List Th) (x : Int) : (look l x).isSome = hasK (prs l) x := by
  cases h : hasK (prs l) x with
  | false =>
    have := hasK_not.1 h
    rw [look_none.2 this]; rfl
  | true =>
    have := hasK_iff.1 h
    cases h2 : look l x with
    | none => exact absurd this (look_none.1 h2)
    | some p => rfl
theorem look_perm {l l' : List Th} (h : l.Perm l') (hn : (keysP (prs l)).Nodup) (x : Int) : look l x = look l' x := by
  induction h with
  | nil => rfl
  | cons t _ ih =>
    rw [look_cons, look_cons, ih (by rw [prs_cons] at hn; simp only [keysP, List.map_cons, List.nodup_cons] at hn; exact hn.2)]
  | swap t u l =>
    rw [look_cons, look_cons, look_cons, look_cons]
    rw [prs_cons, prs_cons] at hn
    simp only [keysP, List.map_cons, List.nodup_cons, List.mem_cons, not_or] at hn
    have := hn.1.1
    by_cases h1 : x = u.2.1
    · by_cases h2 : x = t.2.1
      · omega
      · rw [if_pos h1, if_neg h2, if_pos h1]
    · rw [if_neg h1, if_neg h1]
  | trans h1 _ ih1 ih2 =>
    rw [ih1 hn, ih2 (nodup_of_perm h1 hn)]
theorem look_split {l : List Th} {x : Int} {p : Nat} (h : look l x = some p) : ∃ A n B, l = A ++ (p, x, n) :: B := by
  induction l with
  | nil => simp [look] at h
  | cons t r ih =>
    rw [look_cons] at h
    by_cases e : x = t.2.1
    · rw [if_pos e] at h
      injection h with h
      obtain ⟨q, k, n⟩ := t
      simp only at e h
      subst e h
      exact ⟨[], n, r, rfl⟩
    · rw [if_neg e] at h
      obtain ⟨A, n, B, rfl⟩ := ih h
      exact ⟨t :: A, n, B, rfl⟩
theorem split_two {T K A B : List Th} {t : Th} (h : T ++ K = A ++ t :: B) : (∃ C, T = A ++ t :: C ∧ B = C ++ K) ∨ ∃ C, K = C ++ t :: B ∧ A = T ++ C := by
  rcases List.append_eq_append_iff.1 h with ⟨C, rfl, hK⟩ | ⟨C, hT, hC⟩
  · exact .inr ⟨C, hK, rfl⟩
  · cases C with
    | nil =>
      simp at hT hC
      exact .inr ⟨[], by simp [← hC], by simp [hT]⟩
    | cons u C =>
      simp at hC
      obtain ⟨rfl, rfl⟩ := hC
      exact .inl ⟨C, hT, rfl⟩

section
variable {w w' : World} {b off : Nat} {kept : Bool} {l : List Th} {S : Nat → Prop}
theorem Rw.chg (h : Rw w b off kept l) (k : Chg S w w') (hb : ¬ S b) (hl : ∀ t ∈ l, ¬ S t.1) : Rw w' b off kept l := by
  have lb := cell_lt h.front
  exact ⟨(k.cell lb hb _).trans h.front, (k.cell lb hb _).trans h.back, (k.cell lb hb _).trans h.bytes, fun o => (k.frozen lb hb o).trans (h.fz o), Lk.chg k h.lk hl, h.apart, h.one⟩
theorem Rw.other (h : Rw w b off kept l) (k : Chg S w w') (hl : ∀ t ∈ l, ¬ S t.1) {o2 : Nat} (hk : Keep b o2 w w') (ho : off + 3 ≤ o2 ∨ o2 + 3 ≤ off) (fz : ∀ o, w'.frozen? ⟨b, o, none⟩ = false) : Rw w' b off kept l :=
  ⟨(hk _ (by omega)).trans h.front, (hk _ (by omega)).trans h.back, (hk _ (by omega)).trans h.bytes, fz, Lk.chg k h.lk hl, h.apart, h.one⟩
theorem Lk.lt {nxt : Option Nat} : ∀ {l : List Th} {pre : Option Nat}, Lk w kept pre nxt l → ∀ t ∈ l, t.1 < w.heap.size ∧ w.cell? ⟨t.1, 0, none⟩ = some (.int .i64 t.2.1)
  | [], _, _, _, h => by cases h
  | u :: r, _, h, t, ht => by
    rcases List.mem_cons.1 ht with rfl | ht
    · exact ⟨cell_lt h.1.c0, h.1.c0⟩
    · exact Lk.lt h.2 t ht
end

/-- The list's struct at block b, its map's value, its two rows. -/
structure LsR (w : World) (b : Nat) (most : Int) (v : Value) (N : Nat) (T K : List Th) : Prop where
  c0 : w.cell? ⟨b, 0, none⟩ = some (.int .i64 most)
  c1 : w.cell? ⟨b, 1, none⟩ = some v
  mp : MapV w v N (look (T ++ K))
  tr : Rw w b 2 false T
  kr : Rw w b 5 true K
  sep : ∀ t ∈ T, ∀ u ∈ K, t.1 ≠ u.1
  len : T.length + K.length ≤ N
  keys : (keysP (prs (T ++ K))).Nodup
  bytes : ∀ t ∈ prs (T ++ K), 1 ≤ t.2 ∧ t.2 ≤ 1099511627776
/-- The list while the thing t is in none of its rows. -/
structure LsX (w : World) (b : Nat) (most : Int) (v : Value) (N : Nat) (T K : List Th) (t : Th) (kept : Bool) : Prop where
  c0 : w.cell? ⟨b, 0, none⟩ = some (.int .i64 most)
  c1 : w.cell? ⟨b, 1, none⟩ = some v
  mp : MapV w v N (look (t :: (T ++ K)))
  tr : Rw w b 2 false T
  kr : Rw w b 5 true K
  nd : ∃ x y, Nd w kept t x y
  sep : ∀ t ∈ T, ∀ u ∈ K, t.1 ≠ u.1
  off : t.1 ≠ b ∧ ∀ u ∈ T ++ K, u.1 ≠ t.1
  len : T.length + K.length + 1 ≤ N
  keys : (keysP (prs (t :: (T ++ K)))).Nodup
  bytes : ∀ u ∈ prs (t :: (T ++ K)), 1 ≤ u.2 ∧ u.2 ≤ 1099511627776
/-- The list's own blocks. -/
def ownL (b : Nat) (v : Value) (T K : List Th) (k : Nat) : Prop := k = b ∨ v = .map (some k) ∨ ∃ t ∈ T ++ K, k = t.1

theorem MapV.not {w : World} {v : Value} {N : Nat} {M : Int → Option Nat} (h : MapV w v N M) {m b o : Nat} {u : Value} (hv : v = .map (some m)) (hc : w.cell? ⟨b, o, none⟩ = some u) : m ≠ b := by
  rcases h with ⟨rfl, _⟩ | ⟨m', rfl, h⟩
  · cases hv
  · injection hv with hv; injection hv with hv; subst hv; exact h.cell hc
theorem sum_bound {T : List Th} {N : Nat} (h : ∀ t ∈ prs T, 1 ≤ t.2 ∧ t.2 ≤ 1099511627776) (hl : T.length ≤ N) (hN : N ≤ 1000) : 0 ≤ sumT T ∧ sumT T ≤ 1152921504606846976 := by
  rw [sumT_prs]
  have h1 := sum_nonneg fun t ht => (h t ht).1
  have h2 := sum_le fun t ht => (h t ht).2
  rw [prs_len] at h2
  omega

section
variable {w w' : World} {b N : Nat} {most : Int} {v : Value} {T K : List Th} {S : Nat → Prop}
theorem LsR.chg (h : LsR w b most v N T K) (k : Chg S w w') (hn : ∀ i, ownL b v T K i → ¬ S i) : LsR w' b most v N T K := by
  have lb := cell_lt h.c0
  have hb := hn b (.inl rfl)
  exact ⟨(k.cell lb hb _).trans h.c0, (k.cell lb hb _).trans h.c1, h.mp.chg k fun m hm => hn m (.inr (.inl hm)), h.tr.chg k hb fun t ht => hn _ (.inr (.inr ⟨t, by simp [ht], rfl⟩)), h.kr.chg k hb fun t ht => hn _ (.inr (.inr ⟨t, by simp [ht], rfl⟩)), h.sep, h.len, h.keys, h.bytes⟩
theorem LsR.mono (h : LsR w b most v N T K) {N' : Nat} (hN : N ≤ N') : LsR w b most v N' T K := ⟨h.c0, h.c1, h.mp.mono hN, h.tr, h.kr, h.sep, Nat.le_trans h.len hN, h.keys, h.bytes⟩
theorem LsR.lt (h : LsR w b most v N T K) : ∀ k, ownL b v T K k → k < w.heap.size := by
  rintro k (rfl | rfl | ⟨t, ht, rfl⟩)
  · exact cell_lt h.c0
  · rcases h.mp with ⟨h1, _⟩ | ⟨m, h1, h2⟩
    · cases h1
    · injection h1 with h1; injection h1 with h1; subst h1; exact h2.lt
  · rcases List.mem_append.1 ht with ht | ht
    · exact (Lk.lt h.tr.lk t ht).1
    · exact (Lk.lt h.kr.lk t ht).1
theorem bytes_of_perm {l l' : List Th} (h : l.Perm l') (hn : ∀ t ∈ prs l, 1 ≤ t.2 ∧ t.2 ≤ 1099511627776) : ∀ t ∈ prs l', 1 ≤ t.2 ∧ t.2 ≤ 1099511627776 := by
  intro t ht
  obtain ⟨u, hu, rfl⟩ := List.mem_map.1 ht
  exact hn _ (List.mem_map.2 ⟨u, h.mem_iff.2 hu, rfl⟩)
theorem one_split {A B : List Th} {t : Th} (h : ((A ++ t :: B).map fun t => t.1).Nodup) : ∀ u ∈ A ++ B, u.1 ≠ t.1 := by
  rw [List.map_append, List.nodup_append] at h
  have h2 := h.2.1
  simp only [List.map_cons, List.nodup_cons] at h2
  intro u hu e
  rcases List.mem_append.1 hu with hu | hu
  · exact h.2.2 u.1 (List.mem_map.2 ⟨u, hu, rfl⟩) t.1 (by simp) e
  · exact h2.1 (List.mem_map.2 ⟨u, hu, e⟩)

/-- Out of the trial row. -/
theorem pullT (w : World) (b : Nat) (most : Int) (v : Value) (N : Nat) (A B K : List Th) (t : Th) (h : LsR w b most v N (A ++ t :: B) K) (hN : N ≤ 1000) :
    Calls Try.prog 62 #[.pointer (some ⟨b, 2, none⟩), .pointer (some ⟨t.1, 0, none⟩)] w fun e w' => e = .returned (.tuple #[]) ∧ LsX w' b most v N (A ++ B) K t false ∧ Chg (fun k => k = b ∨ ∃ u ∈ A ++ t :: B ++ K, k = u.1) w w' := by
  have hp : (A ++ t :: B ++ K).Perm (t :: (A ++ B ++ K)) := by rw [List.append_assoc, List.append_assoc]; exact List.perm_middle (a := t) (l₁ := A) (l₂ := B ++ K)
  have hk := nodup_of_perm hp h.keys
  have hy := bytes_of_perm hp h.bytes
  have hl := h.len
  simp only [List.length_append, List.length_cons] at hl
  have ht := hy t.2 (by simp [prs])
  refine (pull_any w b 2 false A B t h.tr (by omega) (sum_bound (N := N) (fun u hu => hy u (by simp only [prs, List.map_append, List.map_cons, List.mem_append, List.mem_cons] at hu ⊢; exact .inr (.inl hu))) (by simp; omega) hN)).mono ?_
  rintro e w' ⟨h1, h2, h3, h4, h5⟩
  have hS : ∀ u ∈ A ++ B, u ∈ A ++ t :: B := fun u hu => by simp at hu ⊢; rcases hu with hu | hu <;> simp [hu]
  have hkn : ∀ u ∈ K, ¬ (u.1 = b ∨ ∃ x ∈ A ++ B, u.1 = x.1) := by
    rintro u hu (e | ⟨x, hx, e⟩)
    · exact h.kr.apart u hu e
    · exact h.sep x (hS x hx) u hu e.symm
  refine ⟨h1, ⟨(h5 0 (by omega)).trans h.c0, (h5 1 (by omega)).trans h.c1, ?_, h2, h.kr.other h4 hkn h5 (.inr (by omega)) h2.fz, h3, fun x hx => h.sep x (hS x hx), ⟨h.tr.apart t (by simp), fun u hu => ?_⟩, by simp; omega, hk, hy⟩, h4.mono fun k _ hh => hh.imp id fun ⟨u, hu, e⟩ => ⟨u, List.mem_append.2 (.inl (hS u hu)), e⟩⟩
  · refine (h.mp.congr fun x => look_perm hp h.keys x).chg h4 fun m hm => ?_
    rintro (e | ⟨x, hx, e⟩)
    · exact h.mp.not hm h.c0 e
    · exact h.mp.not hm (Lk.lt h.tr.lk x (hS x hx)).2 e
  · rcases List.mem_append.1 hu with hu | hu
    · exact one_split h.tr.one u hu
    · exact fun e => h.sep t (by simp) u hu e.symm
/-- Out of the kept row. -/
theorem pullK (w : World) (b : Nat) (most : Int) (v : Value) (N : Nat) (A B T : List Th) (t : Th) (h : LsR w b most v N T (A ++ t :: B)) (hN : N ≤ 1000) :
    Calls Try.prog 62 #[.pointer (some ⟨b, 5, none⟩), .pointer (some ⟨t.1, 0, none⟩)] w fun e w' => e = .returned (.tuple #[]) ∧ LsX w' b most v N T (A ++ B) t true ∧ Chg (fun k => k = b ∨ ∃ u ∈ T ++ (A ++ t :: B), k = u.1) w w' := by
  have hp : (T ++ (A ++ t :: B)).Perm (t :: (T ++ (A ++ B))) := by rw [← List.append_assoc, ← List.append_assoc]; exact List.perm_middle (a := t) (l₁ := T ++ A) (l₂ := B)
  have hk := nodup_of_perm hp h.keys
  have hy := bytes_of_perm hp h.bytes
  have hl := h.len
  simp only [List.length_append, List.length_cons] at hl
  have ht := hy t.2 (by simp [prs])
  refine (pull_any w b 5 true A B t h.kr (by omega) (sum_bound (N := N) (fun u hu => hy u (by simp only [prs, List.map_append, List.map_cons, List.mem_append, List.mem_cons] at hu ⊢; exact .inr (.inr hu))) (by simp; omega) hN)).mono ?_
  rintro e w' ⟨h1, h2, h3, h4, h5⟩
  have hS : ∀ u ∈ A ++ B, u ∈ A ++ t :: B := fun u hu => by simp at hu ⊢; rcases hu with hu | hu <;> simp [hu]
  have hkn : ∀ u ∈ T, ¬ (u.1 = b ∨ ∃ x ∈ A ++ B, u.1 = x.1) := by
    rintro u hu (e | ⟨x, hx, e⟩)
    · exact h.tr.apart u hu e
    · exact h.sep u hu x (hS x hx) e
  refine ⟨h1, ⟨(h5 0 (by omega)).trans h.c0, (h5 1 (by omega)).trans h.c1, ?_, h.tr.other h4 hkn h5 (.inl (by omega)) h2.fz, h2, h3, fun x hx u hu => h.sep x hx u (hS u hu), ⟨h.kr.apart t (by simp), fun u hu => ?_⟩, by simp; omega, hk, hy⟩, h4.mono fun k _ hh => hh.imp id fun ⟨u, hu, e⟩ => ⟨u, List.mem_append.2 (.inr (hS u hu)), e⟩⟩
  · refine (h.mp.congr fun x => look_perm hp h.keys x).chg h4 fun m hm => ?_
    rintro (e | ⟨x, hx, e⟩)
    · exact h.mp.not hm h.c0 e
    · exact h.mp.not hm (Lk.lt h.kr.lk x (hS x hx)).2 e
  · rcases List.mem_append.1 hu with hu | hu
    · exact fun e => h.sep u hu t (by simp) e
    · exact one_split h.kr.one u hu
/-- Into the trial row. -/
theorem pushT (w : World) (b : Nat) (most : Int) (v : Value) (N : Nat) (T K : List Th) (t : Th) (h : LsX w b most v N T K t false) (hN : N ≤ 1000) :
    Calls Try.prog 54 #[.pointer (some ⟨b, 2, none⟩), .pointer (some ⟨t.1, 0, none⟩)] w fun e w' => e = .returned (.tuple #[]) ∧ LsR w' b most v N (T ++ [t]) K ∧ Chg (fun k => k = b ∨ ∃ u ∈ t :: (T ++ K), k = u.1) w w' := by
  have hp : (t :: (T ++ K)).Perm (T ++ [t] ++ K) := by rw [List.append_assoc]; exact (List.perm_middle (a := t) (l₁ := T) (l₂ := K)).symm
  have hk := nodup_of_perm hp h.keys
  have hy := bytes_of_perm hp h.bytes
  have hl := h.len
  obtain ⟨x, y, hnd⟩ := h.nd
  have ht := h.bytes t.2 (by simp [prs])
  refine (push_any w b 2 false T t y x h.tr hnd h.off.1 (fun u hu => h.off.2 u (by simp [hu])) (by omega) (sum_bound (N := N) (fun u hu => h.bytes u (by simp only [prs, List.map_append, List.map_cons, List.mem_append, List.mem_cons] at hu ⊢; exact .inr (.inl hu))) (by omega) hN)).mono ?_
  rintro e w' ⟨h1, h2, h4, h5⟩
  have hkn : ∀ u ∈ K, ¬ (u.1 = b ∨ u.1 = t.1 ∨ ∃ x ∈ T, u.1 = x.1) := by
    rintro u hu (e | e | ⟨x, hx, e⟩)
    · exact h.kr.apart u hu e
    · exact h.off.2 u (by simp [hu]) e
    · exact h.sep x hx u hu e.symm
  refine ⟨h1, ⟨(h5 0 (by omega)).trans h.c0, (h5 1 (by omega)).trans h.c1, ?_, h2, h.kr.other h4 hkn h5 (.inr (by omega)) h2.fz, fun x hx u hu => ?_, by simp; omega, hk, hy⟩, h4.mono fun k _ hh => hh.imp id fun hh => ?_⟩
  · refine (h.mp.congr fun x => look_perm hp h.keys x).chg h4 fun m hm => ?_
    rintro (e | e | ⟨x, hx, e⟩)
    · exact h.mp.not hm h.c0 e
    · exact h.mp.not hm hnd.c0 e
    · exact h.mp.not hm (Lk.lt h.tr.lk x hx).2 e
  · rcases List.mem_append.1 hx with hx | hx
    · exact h.sep x hx u hu
    · simp at hx; subst hx; exact fun e => h.off.2 u (by simp [hu]) e.symm
  · rcases hh with e | ⟨u, hu, e⟩
    · exact ⟨t, by simp, e⟩
    · exact ⟨u, by simp [hu], e⟩
/-- Into the kept row. -/
theorem pushK (w : World) (b : Nat) (most : Int) (v : Value) (N : Nat) (T K : List Th) (t : Th) (h : LsX w b most v N T K t true) (hN : N ≤ 1000) :
    Calls Try.prog 54 #[.pointer (some ⟨b, 5, none⟩), .pointer (some ⟨t.1, 0, none⟩)] w fun e w' => e = .returned (.tuple #[]) ∧ LsR w' b most v N T (K ++ [t]) ∧ Chg (fun k => k = b ∨ ∃ u ∈ t :: (T ++ K), k = u.1) w w' := by
  have hp : (t :: (T ++ K)).Perm (T ++ (K ++ [t])) := by simpa using (List.perm_middle (a := t) (l₁ := T ++ K) (l₂ := [])).symm
  have hk := nodup_of_perm hp h.keys
  have hy := bytes_of_perm hp h.bytes
  have hl := h.len
  obtain ⟨x, y, hnd⟩ := h.nd
  have ht := h.bytes t.2 (by simp [prs])
  refine (push_any w b 5 true K t y x h.kr hnd h.off.1 (fun u hu => h.off.2 u (by simp [hu])) (by omega) (sum_bound (N := N) (fun u hu => h.bytes u (by simp only [prs, List.map_append, List.map_cons, List.mem_append, List.mem_cons] at hu ⊢; exact .inr (.inr hu))) (by omega) hN)).mono ?_
  rintro e w' ⟨h1, h2, h4, h5⟩
  have hkn : ∀ u ∈ T, ¬ (u.1 = b ∨ u.1 = t.1 ∨ ∃ x ∈ K, u.1 = x.1) := by
    rintro u hu (e | e | ⟨x, hx, e⟩)
    · exact h.tr.apart u hu e
    · exact h.off.2 u (by simp [hu]) e
    · exact h.sep u hu x hx e
  refine ⟨h1, ⟨(h5 0 (by omega)).trans h.c0, (h5 1 (by omega)).trans h.c1, ?_, h.tr.other h4 hkn h5 (.inl (by omega)) h2.fz, h2, fun x hx u hu => ?_, by simp; omega, hk, hy⟩, h4.mono fun k _ hh => hh.imp id fun hh => ?_⟩
  · refine (h.mp.congr fun x => look_perm hp h.keys x).chg h4 fun m hm => ?_
    rintro (e | e | ⟨x, hx, e⟩)
    · exact h.mp.not hm h.c0 e
    · exact h.mp.not hm hnd.c0 e
    · exact h.mp.not hm (Lk.lt h.kr.lk x hx).2 e
  · rcases List.mem_append.1 hu with hu | hu
    · exact h.sep x hx u hu
    · simp at hu; subst hu; exact h.off.2 x (by simp [hx])
  · rcases hh with e | ⟨u, hu, e⟩
    · exact ⟨t, by simp, e⟩
    · exact ⟨u, by simp [hu], e⟩
/-- A loose thing's mark. -/
theorem LsX.mark {t : Th} {kept : Bool} (h : LsX w b most v N T K t kept) (k : Bool) : LsX (w.setCell ⟨t.1, 2, none⟩ (.bool k)) b most v N T K t k := by
  obtain ⟨x, y, hnd⟩ := h.nd
  have hc : Chg (fun i => i = t.1) w (w.setCell ⟨t.1, 2, none⟩ (.bool k)) := Chg.setCell (S := fun i => i = t.1) (Chg.refl _ _) (p := ⟨t.1, 2, none⟩) (.inl rfl) _
  have lb := cell_lt h.c0
  have hb : ¬ b = t.1 := fun e => h.off.1 e.symm
  refine ⟨(hc.cell lb hb _).trans h.c0, (hc.cell lb hb _).trans h.c1, h.mp.chg hc fun m hm => h.mp.not hm hnd.c0, h.tr.chg hc hb fun u hu => h.off.2 u (by simp [hu]), h.kr.chg hc hb fun u hu => h.off.2 u (by simp [hu]), ⟨x, y, ?_, ?_, ?_, ?_, ?_, ?_⟩, h.sep, h.off, h.len, h.keys, h.bytes⟩
  · rw [cell_other (by simp)]; exact hnd.c0
  · rw [cell_other (by simp)]; exact hnd.c1
  · exact cell_same hnd.c2
  · rw [cell_other (by simp)]; exact hnd.c3
  · rw [cell_other (by simp)]; exact hnd.c4
  · intro o; rw [World.frozen?_setCell]; exact hnd.fz o
end
end Go.Proofs.Ytdoepjokaekckaa
