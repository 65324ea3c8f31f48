/- Two rows of things with tenants and names, plain. -/
import Derived.Test.YtdoepjokaekckaaBd
import Derived.Test.YtdoepjokaekckaaLp
namespace Go.Proofs.Ytdoepjokaekckaa
set_option linter.unusedVariables false

def pt (t : Tg) : Pt := (t.1, t.2.1)
def pts (X : List Tg) : List Pt := X.map pt
def isX (x : Int) (t : Tg) : Bool := t.1 == x
def getX (X : List Tg) (x : Int) : Option Tg := X.find? (isX x)
def delX (X : List Tg) (x : Int) : List Tg := X.eraseP (isX x)
def sumX (X : List Tg) : Int := sumP (pts X)
def ten (t : Tg) : List UInt8 := t.2.2.1.data.toList
def ofX (X : List Tg) (s : List UInt8) : Int := sumX (X.filter fun t => ten t == s)
def spillX (most : Int) : List Tg → List Tg → List Tg × List Tg
  | T, [] => (T, [])
  | T, v :: K => if most < sumX (v :: K) then spillX most (T ++ [v]) K else (T, v :: K)
def touchX (most : Int) (T K : List Tg) (x : Int) : List Tg × List Tg := match getX (T ++ K) x with
  | some t => spillX most (delX T x) (delX K x ++ [t])
  | none => (T, K)
def dropX (T K : List Tg) (x : Int) : List Tg × List Tg := (delX T x, delX K x)

theorem pts_append (a b : List Tg) : pts (a ++ b) = pts a ++ pts b := by simp [pts]
theorem pts_cons (t : Tg) (b : List Tg) : pts (t :: b) = pt t :: pts b := rfl
theorem pts_len (a : List Tg) : (pts a).length = a.length := by simp [pts]
theorem pts_del (X : List Tg) (x : Int) : pts (delX X x) = delK (pts X) x := by
  induction X with
  | nil => rfl
  | cons t r ih =>
    unfold delX delK at ih ⊢
    by_cases e : t.1 = x
    · have h1 : isX x t = true := by simp [isX, e]
      have h2 : isK x (pt t) = true := by simp [isK, pt, e]
      rw [pts_cons, List.eraseP_cons_of_pos h1, List.eraseP_cons_of_pos h2]
    · have h1 : ¬ isX x t = true := by simp [isX, e]
      have h2 : ¬ isK x (pt t) = true := by simp [isK, pt, e]
      rw [pts_cons, List.eraseP_cons_of_neg h1, List.eraseP_cons_of_neg h2, pts_cons, ih]
theorem getX_has (X : List Tg) (x : Int) : (getX X x).isSome = hasK (pts X) x := by
  induction X with
  | nil => rfl
  | cons t r ih =>
    unfold getX hasK at ih ⊢
    rw [pts_cons, List.find?_cons, List.any_cons]
    by_cases e : t.1 = x
    · have h1 : isX x t = true := by simp [isX, e]
      have h2 : isK x (pt t) = true := by simp [isK, pt, e]
      rw [h1, h2]; rfl
    · have h1 : isX x t = false := by simp [isX, e]
      have h2 : isK x (pt t) = false := by simp [isK, pt, e]
      rw [h1, h2, Bool.false_or]; exact ih
theorem getX_at {X : List Tg} {x : Int} {t : Tg} (h : getX X x = some t) : t.1 = x ∧ t ∈ X ∧ atK (pts X) x = t.2.1 := by
  have h1 : t.1 = x := by have := List.find?_some h; simpa [isX] using this
  refine ⟨h1, List.mem_of_find?_eq_some h, ?_⟩
  induction X with
  | nil => cases h
  | cons u r ih =>
    unfold getX at h ih
    unfold atK at ih ⊢
    rw [List.find?_cons] at h
    rw [pts_cons, List.find?_cons]
    by_cases e : u.1 = x
    · have h3 : isX x u = true := by simp [isX, e]
      have h2 : isK x (pt u) = true := by simp [isK, pt, e]
      rw [h3] at h
      injection h with h
      rw [h2, ← h]; rfl
    · have h3 : isX x u = false := by simp [isX, e]
      have h2 : isK x (pt u) = false := by simp [isK, pt, e]
      rw [h3] at h
      rw [h2]
      exact ih h
theorem spillX_pts (most : Int) : ∀ (K T : List Tg), spill most (pts T) (pts K) = (pts (spillX most T K).1, pts (spillX most T K).2)
  | [], T => rfl
  | v :: K, T => by
    rw [pts_cons, spill, spillX]
    by_cases h : most < sumX (v :: K)
    · have h' : most < sumP (pt v :: pts K) := h
      rw [if_pos h, if_pos h']
      have := spillX_pts most K (T ++ [v])
      rw [pts_append] at this
      exact this
    · have h' : ¬ most < sumP (pt v :: pts K) := h
      rw [if_neg h, if_neg h']; rfl
theorem touchX_pts (most : Int) (T K : List Tg) (x : Int) : touchS most (pts T) (pts K) x = (pts (touchX most T K x).1, pts (touchX most T K x).2) := by
  rw [touchS, touchX, ← pts_append, ← getX_has]
  cases h : getX (T ++ K) x with
  | none => simp
  | some t =>
    obtain ⟨h1, _, h3⟩ := getX_at h
    simp only [Option.isSome_some, if_true]
    rw [h3, ← spillX_pts, pts_append, pts_del, pts_del, ← h1]; rfl
theorem dropX_pts (T K : List Tg) (x : Int) : dropS (pts T) (pts K) x = (pts (dropX T K x).1, pts (dropX T K x).2) := by
  rw [dropS, dropX, pts_del, pts_del]
theorem spillX_app (most : Int) : ∀ (K T : List Tg), (spillX most T K).1 ++ (spillX most T K).2 = T ++ K
  | [], T => rfl
  | v :: K, T => by
    rw [spillX]
    by_cases h : most < sumX (v :: K)
    · rw [if_pos h, spillX_app most K (T ++ [v])]; simp
    · rw [if_neg h]
theorem delX_none {X : List Tg} {x : Int} (h : getX X x = none) : delX X x = X := by
  unfold delX getX at *
  exact List.eraseP_of_forall_not fun t ht => by
    have := List.find?_eq_none.1 h t ht
    simpa using this
theorem delX_perm {X : List Tg} {x : Int} {t : Tg} (h : getX X x = some t) : X.Perm (t :: delX X x) := by
  unfold delX getX at *
  induction X with
  | nil => cases h
  | cons u r ih =>
    rw [List.find?_cons] at h
    by_cases e : isX x u = true
    · rw [e] at h
      injection h with h
      subst h
      rw [List.eraseP_cons_of_pos e]
    · have e' : isX x u = false := by simpa using e
      rw [e'] at h
      rw [List.eraseP_cons_of_neg e]
      exact ((ih h).cons u).trans (List.Perm.swap _ _ _)
theorem getX_append (A B : List Tg) (x : Int) : getX (A ++ B) x = (getX A x).or (getX B x) := by unfold getX; rw [List.find?_append]
theorem keysX (X : List Tg) : keysP (pts X) = X.map (·.1) := by simp [keysP, pts, pt, Function.comp_def]
theorem getX_mem {X : List Tg} (hn : (keysP (pts X)).Nodup) {t : Tg} : getX X t.1 = some t ↔ t ∈ X := by
  constructor
  · intro h; exact (getX_at h).2.1
  · intro h
    rw [keysX] at hn
    unfold getX
    induction X with
    | nil => cases h
    | cons u r ih =>
      rw [List.map_cons, List.nodup_cons] at hn
      rw [List.find?_cons]
      rcases List.mem_cons.1 h with rfl | h
      · have : isX t.1 t = true := by simp [isX]
        rw [this]
      · have : isX t.1 u = false := by
          simp only [isX, beq_eq_false_iff_ne]
          intro e
          exact hn.1 (List.mem_map.2 ⟨t, h, e.symm⟩)
        rw [this]
        exact ih hn.2 h
theorem nodup_permX {X Y : List Tg} (h : X.Perm Y) (hn : (keysP (pts X)).Nodup) : (keysP (pts Y)).Nodup := by
  rw [keysX] at hn ⊢
  exact (h.map (fun t : Tg => t.1)).nodup_iff.1 hn
theorem getX_perm {X Y : List Tg} (h : X.Perm Y) (hn : (keysP (pts X)).Nodup) (x : Int) : getX X x = getX Y x := by
  have hn2 := nodup_permX h hn
  cases h1 : getX X x with
  | some t =>
    obtain ⟨rfl, h3, _⟩ := getX_at h1
    exact ((getX_mem hn2).2 (h.mem_iff.1 h3)).symm
  | none =>
    cases h2 : getX Y x with
    | none => rfl
    | some t =>
      obtain ⟨rfl, h3, _⟩ := getX_at h2
      rw [(getX_mem hn).2 (h.mem_iff.2 h3)] at h1
      cases h1
theorem sumP_perm {a b : List Pt} (h : a.Perm b) : sumP a = sumP b := by
  induction h with
  | nil => rfl
  | cons t _ ih => simp only [sumP, ih]
  | swap t u l => simp only [sumP]; omega
  | trans _ _ h1 h2 => rw [h1, h2]
theorem sumX_perm {X Y : List Tg} (h : X.Perm Y) : sumX X = sumX Y := sumP_perm (h.map pt)
theorem ofX_perm {X Y : List Tg} (h : X.Perm Y) (s : List UInt8) : ofX X s = ofX Y s := sumX_perm (h.filter _)
theorem sumX_cons (t : Tg) (X : List Tg) : sumX (t :: X) = t.2.1 + sumX X := rfl
theorem sumX_append (A B : List Tg) : sumX (A ++ B) = sumX A + sumX B := by unfold sumX; rw [pts_append, sumP_append]
theorem ofX_cons (t : Tg) (X : List Tg) (s : List UInt8) : ofX (t :: X) s = (if s = ten t then t.2.1 else 0) + ofX X s := by
  unfold ofX
  rw [List.filter_cons]
  by_cases e : ten t == s
  · have e' : s = ten t := (by simpa using e : ten t = s).symm
    rw [if_pos e, if_pos e', sumX_cons]
  · have e' : ¬ s = ten t := fun h => e (by simp [h])
    rw [if_neg e, if_neg e']; omega
theorem ofX_append (A B : List Tg) (s : List UInt8) : ofX (A ++ B) s = ofX A s + ofX B s := by unfold ofX; rw [List.filter_append, sumX_append]
/-- Out of two rows with keys of their own: what is left, and the thing. -/
theorem drop_perm {T K : List Tg} {x : Int} {t : Tg} (hn : (keysP (pts (T ++ K))).Nodup) (h : getX (T ++ K) x = some t) : (T ++ K).Perm (t :: (delX T x ++ delX K x)) := by
  rw [getX_append] at h
  cases hT : getX T x with
  | some u =>
    rw [hT] at h
    injection h with h
    subst h
    have hK : getX K x = none := by
      cases hK : getX K x with
      | none => rfl
      | some v =>
        obtain ⟨e1, m1, _⟩ := getX_at hT
        obtain ⟨e2, m2, _⟩ := getX_at hK
        rw [keysX, List.map_append, List.nodup_append] at hn
        exact absurd (e1.trans e2.symm) (hn.2.2 _ (List.mem_map.2 ⟨u, m1, rfl⟩) _ (List.mem_map.2 ⟨v, m2, rfl⟩))
    rw [delX_none hK]
    exact (delX_perm hT).append_right K
  | none =>
    rw [hT] at h
    have hK : getX K x = some t := h
    rw [delX_none hT]
    exact ((delX_perm hK).append_left T).trans List.perm_middle
theorem touch_perm {most : Int} {T K : List Tg} {x : Int} (hn : (keysP (pts (T ++ K))).Nodup) : (T ++ K).Perm ((touchX most T K x).1 ++ (touchX most T K x).2) := by
  rw [touchX]
  cases h : getX (T ++ K) x with
  | none => exact List.Perm.refl _
  | some t =>
    show List.Perm _ ((spillX most (delX T x) (delX K x ++ [t])).1 ++ (spillX most (delX T x) (delX K x ++ [t])).2)
    rw [spillX_app]
    refine (drop_perm hn h).trans ?_
    rw [← List.append_assoc]
    exact (List.perm_append_singleton t _).symm
end Go.Proofs.Ytdoepjokaekckaa
