/- Both lists, told by the same plain rows: what each call makes of them. -/
import Derived.Test.YtdoepjokaekckaaLo
namespace Go.Proofs.Ytdoepjokaekckaa
set_option linter.unusedVariables false
open Go.RowKit

def GrowO (O : Nat → Prop) (w w' : World) (k : Nat) : Prop := O k ∨ (w.heap.size ≤ k ∧ k < w'.heap.size)
/-- The list, its blocks among O. -/
def Ls (w : World) (O : Nat → Prop) (b : Nat) (most : Int) (N : Nat) (T K : List Pt) : Prop := ∃ v TT KK, LsR w b most v N TT KK ∧ prs TT = T ∧ prs KK = K ∧ (∀ k, ownL b v TT KK k → O k) ∧ ∀ k, O k → k < w.heap.size
/-- The reference's list, its blocks among R. -/
def Rf (w : World) (R : Nat → Prop) (r : Nat) (most : Int) (T K : List Pt) : Prop := ∃ a1 c1 a2 c2, RfR w r most T K a1 c1 a2 c2 ∧ R r ∧ (∀ g, (Value.slice a1 T.length c1).ownBlock = some g → R g) ∧ (∀ g, (Value.slice a2 K.length c2).ownBlock = some g → R g) ∧ ∀ k, R k → k < w.heap.size
section
variable {w w' : World} {O R S : Nat → Prop} {b r N : Nat} {most : Int} {T K : List Pt}
theorem Ls.chg (h : Ls w O b most N T K) (k : Chg S w w') (hS : ∀ i, O i → ¬ S i) : Ls w' O b most N T K := by
  obtain ⟨v, TT, KK, h1, h2, h3, h4, h5⟩ := h
  exact ⟨v, TT, KK, h1.chg k fun i hi => hS i (h4 i hi), h2, h3, h4, fun i hi => Nat.lt_of_lt_of_le (h5 i hi) k.size⟩
theorem Ls.still (h : Ls w O b most N T K) (k : Chg (fun _ => False) w w') : Ls w' O b most N T K := h.chg k fun _ _ => id
theorem Ls.mono (h : Ls w O b most N T K) {N' : Nat} (hN : N ≤ N') : Ls w O b most N' T K := by
  obtain ⟨v, TT, KK, h1, h2⟩ := h
  exact ⟨v, TT, KK, h1.mono hN, h2⟩
theorem Ls.wide (h : Ls w O b most N T K) {O' : Nat → Prop} (h1 : ∀ k, O k → O' k) (h2 : ∀ k, O' k → k < w.heap.size) : Ls w O' b most N T K := by
  obtain ⟨v, TT, KK, a1, a2, a3, a4, a5⟩ := h
  exact ⟨v, TT, KK, a1, a2, a3, fun k hk => h1 k (a4 k hk), h2⟩
theorem Ls.lt (h : Ls w O b most N T K) : ∀ k, O k → k < w.heap.size := by obtain ⟨v, TT, KK, _, _, _, _, h5⟩ := h; exact h5
theorem Ls.own (h : Ls w O b most N T K) : O b := by obtain ⟨v, TT, KK, _, _, _, h4, _⟩ := h; exact h4 b (.inl rfl)
theorem Ls.len (h : Ls w O b most N T K) : T.length + K.length ≤ N := by
  obtain ⟨v, TT, KK, h1, rfl, rfl, _⟩ := h
  have := h1.len
  simpa [prs] using this
theorem Ls.keys (h : Ls w O b most N T K) : (keysP (T ++ K)).Nodup := by
  obtain ⟨v, TT, KK, h1, rfl, rfl, _⟩ := h
  rw [← prs_append]; exact h1.keys
theorem Ls.bytes (h : Ls w O b most N T K) : ∀ t ∈ T ++ K, 1 ≤ t.2 ∧ t.2 ≤ 1099511627776 := by
  obtain ⟨v, TT, KK, h1, rfl, rfl, _⟩ := h
  rw [← prs_append]; exact h1.bytes
theorem Rf.chg (h : Rf w R r most T K) (k : Chg S w w') (hS : ∀ i, R i → ¬ S i) : Rf w' R r most T K := by
  obtain ⟨a1, c1, a2, c2, h1, h2, h3, h4, h5⟩ := h
  exact ⟨a1, c1, a2, c2, h1.chg k (hS r h2) (fun g hg => hS g (h3 g hg)) (fun g hg => hS g (h4 g hg)), h2, h3, h4, fun i hi => Nat.lt_of_lt_of_le (h5 i hi) k.size⟩
theorem Rf.still (h : Rf w R r most T K) (k : Chg (fun _ => False) w w') : Rf w' R r most T K := h.chg k fun _ _ => id
theorem Rf.lt (h : Rf w R r most T K) : ∀ k, R k → k < w.heap.size := by obtain ⟨_, _, _, _, _, _, _, _, h5⟩ := h; exact h5
theorem Rf.own (h : Rf w R r most T K) : R r := by obtain ⟨_, _, _, _, _, h2, _⟩ := h; exact h2
theorem growO_lt (h : ∀ k, O k → k < w.heap.size) (hs : w.heap.size ≤ w'.heap.size) : ∀ k, GrowO O w w' k → k < w'.heap.size := by
  rintro k (hk | hk)
  · exact Nat.lt_of_lt_of_le (h k hk) hs
  · exact hk.2
end
def LsPost (w : World) (O : Nat → Prop) (b : Nat) (most : Int) (N : Nat) (T K : List Pt) (w' : World) : Prop := Ls w' (GrowO O w w') b most N T K ∧ Chg O w w'
def RfPost (w : World) (R : Nat → Prop) (r : Nat) (most : Int) (T K : List Pt) (w' : World) : Prop := Rf w' (GrowO R w w') r most T K ∧ Chg (fun k => k = r) w w'
theorem Ls.keep {w : World} {O : Nat → Prop} {b : Nat} {most : Int} {N : Nat} {T K : List Pt} (h : Ls w O b most N T K) {N' : Nat} (hN : N ≤ N') : LsPost w O b most N' T K w := ⟨(h.mono hN).wide (fun _ h => .inl h) (growO_lt h.lt (Nat.le_refl _)), Chg.refl _ _⟩
theorem Rf.keep {w w' : World} {R : Nat → Prop} {r : Nat} {most : Int} {T K : List Pt} (h : Rf w R r most T K) (k : Chg (fun _ => False) w w') : RfPost w R r most T K w' := by
  obtain ⟨a1, c1, a2, c2, h1, h2, h3, h4, h5⟩ := h.still k
  exact ⟨⟨a1, c1, a2, c2, h1, .inl h2, fun g hg => .inl (h3 g hg), fun g hg => .inl (h4 g hg), growO_lt h.lt k.size⟩, k.mono fun _ _ h => h.elim⟩
theorem RfN.post {w w' : World} {R : Nat → Prop} {r : Nat} {most : Int} {T0 K0 T K : List Pt} {a1 a2 : Option Addr} {n1 c1 n2 c2 : Nat} (h : RfN w r most T0 K0 a1 n1 c1 a2 n2 c2 T K w') (hr : R r) (h1 : ∀ g, (Value.slice a1 n1 c1).ownBlock = some g → R g) (h2 : ∀ g, (Value.slice a2 n2 c2).ownBlock = some g → R g) (h3 : ∀ k, R k → k < w.heap.size) : RfPost w R r most T K w' := by
  obtain ⟨b1, d1, b2, d2, hR, k1, k2, k3⟩ := h
  refine ⟨⟨b1, d1, b2, d2, hR, .inl hr, fun g hg => ?_, fun g hg => ?_, growO_lt h3 k3.size⟩, k3⟩
  · rcases k1 g hg with h | h | h
    · exact .inl (h1 g h)
    · exact .inl (h2 g h)
    · exact .inr ⟨h, (hR.n1 g hg).2⟩
  · rcases k2 g hg with h | h | h
    · exact .inl (h1 g h)
    · exact .inl (h2 g h)
    · exact .inr ⟨h, (hR.n2 g hg).2⟩

section
variable {most x n : Int} {A B T K : List Pt}
theorem sides {A B : List Pt} (h : (keysP (T ++ K)).Nodup) (hT : T = A ++ (x, n) :: B) : hasK A x = false ∧ hasK B x = false ∧ hasK K x = false := by
  subst hT
  rw [List.append_assoc, List.cons_append] at h
  have h1 := keys_split h
  rw [hasK_append, Bool.or_eq_false_iff] at h1
  exact ⟨h1.1, h1.2⟩
theorem sidesK {A B : List Pt} (h : (keysP (T ++ K)).Nodup) (hK : K = A ++ (x, n) :: B) : hasK T x = false ∧ hasK A x = false ∧ hasK B x = false := by
  subst hK
  rw [← List.append_assoc] at h
  have h1 := keys_split h
  rw [hasK_append, Bool.or_eq_false_iff] at h1
  exact ⟨h1.1.1, h1.1.2, h1.2⟩
theorem touch_of_trial (h : (keysP (T ++ K)).Nodup) (hT : T = A ++ (x, n) :: B) : touchS most T K x = spill most (A ++ B) (K ++ [(x, n)]) ∧ dropS T K x = (A ++ B, K) ∧ hasK (T ++ K) x = true ∧ atK (T ++ K) x = n := by
  obtain ⟨h1, h2, h3⟩ := sides h hT
  obtain ⟨k1, k2, k3⟩ := touch_split (most := most) h (A := A) (B := B ++ K) (x := x) (n := n) (by rw [hT]; simp)
  have d1 : delK T x = A ++ B := by rw [hT]; exact delK_split (t := (x, n)) h1
  have d2 : delK K x = K := delK_none h3
  exact ⟨by rw [k3, d1, d2], by rw [dropS, d1, d2], k2, k1⟩
theorem touch_of_kept (h : (keysP (T ++ K)).Nodup) (hK : K = A ++ (x, n) :: B) : touchS most T K x = spill most T (A ++ B ++ [(x, n)]) ∧ dropS T K x = (T, A ++ B) ∧ hasK (T ++ K) x = true ∧ atK (T ++ K) x = n := by
  obtain ⟨h1, h2, h3⟩ := sidesK h hK
  obtain ⟨k1, k2, k3⟩ := touch_split (most := most) h (A := T ++ A) (B := B) (x := x) (n := n) (by rw [hK]; simp)
  have d1 : delK K x = A ++ B := by rw [hK]; exact delK_split (t := (x, n)) h2
  have d2 : delK T x = T := delK_none h1
  exact ⟨by rw [k3, d1, d2], by rw [dropS, d1, d2], k2, k1⟩
theorem touch_of_no (h : hasK (T ++ K) x = false) : touchS most T K x = (T, K) ∧ dropS T K x = (T, K) := by
  rw [touchS, h]
  rw [hasK_append, Bool.or_eq_false_iff] at h
  exact ⟨rfl, by rw [dropS, delK_none h.1, delK_none h.2]⟩
theorem where_is (h : hasK (T ++ K) x = true) : (∃ A n B, T = A ++ (x, n) :: B) ∨ ∃ A n B, K = A ++ (x, n) :: B := by
  rw [hasK_append, Bool.or_eq_true] at h
  rcases h with h | h
  · obtain ⟨A, n, B, h1, _⟩ := hasK_split h
    exact .inl ⟨A, n, B, h1⟩
  · obtain ⟨A, n, B, h1, _⟩ := hasK_split h
    exact .inr ⟨A, n, B, h1⟩
end
theorem look_where {TT KK : List Th} {x : Int} {p : Nat} (h : look (TT ++ KK) x = some p) : (∃ A n B, TT = A ++ (p, x, n) :: B) ∨ ∃ A n B, KK = A ++ (p, x, n) :: B := by
  obtain ⟨A, n, B, h1⟩ := look_split h
  rcases split_two h1 with ⟨C, h2, _⟩ | ⟨C, h2, _⟩
  · exact .inl ⟨A, n, C, h2⟩
  · exact .inr ⟨C, n, B, h2⟩
theorem prs_mid {A B : List Th} {p : Nat} {x n : Int} : prs (A ++ (p, x, n) :: B) = prs A ++ (x, n) :: prs B := by simp [prs]

section
variable (w : World) (O : Nat → Prop) (b : Nat) (most : Int) (N : Nat) (T K : List Pt) (x n : Int)
theorem add_ls (h : Ls w O b most N T K) (hN : N ≤ 998) (hx : (Lit.int .i64 x).wf = true) :
    Calls Try.prog 32 #[.pointer (some ⟨b, 0, none⟩), .int .i64 x, .int .i64 n] w fun e w' => e = .returned (.int .i64 (addC T K x n)) ∧ LsPost w O b most (N + 1) (addT T K x n) K w' := by
  by_cases hn : n < 1 ∨ 1099511627776 < n
  · have hc : addC T K x n = 1 := by rw [addC, if_pos hn]
    refine (add_few w b x n hn).mono ?_
    rintro e w' ⟨rfl, rfl⟩
    exact ⟨by rw [hc], by rw [addT, hc]; exact h.keep (by omega)⟩
  · have hb := h.len
    obtain ⟨v, TT, KK, h1, h2, h3, h4, h5⟩ := id h
    have hlk := look_has (TT ++ KK) x
    rw [prs_append, h2, h3, hasK_append] at hlk
    cases hh : hasK T x || hasK K x with
    | true =>
      rw [hh] at hlk
      have hc : addC T K x n = 7 := by rw [addC, if_neg hn, hh]; rfl
      refine (add_there w b most v N TT KK x n h1 (by omega) hx hlk).mono ?_
      rintro e w' ⟨rfl, rfl⟩
      exact ⟨by rw [hc], by rw [addT, hc]; exact h.keep (by omega)⟩
    | false =>
      rw [hh] at hlk
      have hc : addC T K x n = 0 := by rw [addC, if_neg hn, hh]; rfl
      have ht : addT T K x n = T ++ [(x, n)] := by rw [addT, if_pos hc]
      rw [hc, ht]
      have main : ∀ e w', AddPost w b most v N TT KK x n e w' → e = .returned (.int .i64 0) ∧ LsPost w O b most (N + 1) (T ++ [(x, n)]) K w' := by
        rintro e w' ⟨rfl, m, p, k1, k2, k3, k4⟩
        have hs := k4.size
        have hlt := k1.lt
        refine ⟨rfl, ⟨.map (some m), _, _, k1, by rw [prs_append, h2]; rfl, h3, fun k hk => ?_, growO_lt h5 hs⟩, k4.mono fun i _ hi => h4 i hi⟩
        have hkl := hlt k hk
        rcases hk with e | e | ⟨t, ht, e⟩
        · exact .inl (h4 k (.inl e))
        · rcases k3 with e3 | e3
          · exact .inl (h4 k (.inr (.inl (by rw [e3]; exact e))))
          · injection e with e
            injection e with e
            exact .inr ⟨by omega, hkl⟩
        · simp only [List.mem_append, List.mem_singleton] at ht
          rcases ht with (ht | ht) | ht
          · exact .inl (h4 k (.inr (.inr ⟨t, by simp [ht], e⟩)))
          · subst ht; exact .inr ⟨by rw [e]; exact k2, hkl⟩
          · exact .inl (h4 k (.inr (.inr ⟨t, by simp [ht], e⟩)))
      rcases id h1.mp with ⟨e1, _⟩ | ⟨m, e1, _⟩
      · subst e1
        exact (add_nil w b most N TT KK x n h1 (by omega) hx hlk hN).mono main
      · subst e1
        exact (add_map w b m most N TT KK x n h1 (by omega) hx hlk hN).mono main
theorem touch_ls (h : Ls w O b most N T K) (h0 : 0 ≤ most) (hN : N ≤ 998) (hx : (Lit.int .i64 x).wf = true) :
    Calls Try.prog 38 #[.pointer (some ⟨b, 0, none⟩), .int .i64 x] w fun e w' => e = .returned (.bool (hasK (T ++ K) x)) ∧ LsPost w O b most (N + 1) (touchS most T K x).1 (touchS most T K x).2 w' := by
  have hk := h.keys
  obtain ⟨v, TT, KK, h1, h2, h3, h4, h5⟩ := id h
  have hlk := look_has (TT ++ KK) x
  rw [prs_append, h2, h3] at hlk
  have main : ∀ F e w', EndT w b most v N (ownL b v TT KK) F e w' → F = touchS most T K x → hasK (T ++ K) x = true → e = .returned (.bool (hasK (T ++ K) x)) ∧ LsPost w O b most (N + 1) (touchS most T K x).1 (touchS most T K x).2 w' := by
    rintro F e w' ⟨rfl, T', K', k1, k2, k3, k4⟩ hF hh
    rw [← hF, ← k2, hh]
    refine ⟨rfl, ⟨v, T', K', k1.mono (by omega), rfl, rfl, fun k hk => ?_, growO_lt h5 k4.size⟩, k4.mono fun i _ hi => h4 i hi⟩
    rcases hk with e | e | ⟨t, ht, e⟩
    · exact .inl (h4 k (.inl e))
    · exact .inl (h4 k (.inr (.inl e)))
    · exact .inl (h4 k (by rw [e]; exact k3 t ht))
  cases hl : look (TT ++ KK) x with
  | none =>
    rw [hl] at hlk
    have hh : hasK (T ++ K) x = false := hlk.symm
    refine (touch_no w b most v N TT KK x h1 hx hl).mono ?_
    rintro e w' ⟨rfl, rfl⟩
    rw [hh, (touch_of_no (most := most) hh).1]
    exact ⟨rfl, h.keep (by omega)⟩
  | some p =>
    rcases look_where hl with ⟨A, n, B, e1⟩ | ⟨A, n, B, e1⟩
    · subst e1
      obtain ⟨q1, q2, q3, q4⟩ := touch_of_trial (most := most) hk (A := prs A) (B := prs B) (x := x) (n := n) (by rw [← h2, prs_mid])
      refine (touch_trial w b most v N A B KK p x n h1 h0 (by omega) hx hl).mono fun e w' he => main _ e w' he ?_ q3
      rw [q1, prs_append, prs_append, h3]; rfl
    · subst e1
      obtain ⟨q1, q2, q3, q4⟩ := touch_of_kept (most := most) hk (A := prs A) (B := prs B) (x := x) (n := n) (by rw [← h3, prs_mid])
      refine (touch_kept w b most v N A B TT p x n h1 h0 (by omega) hx hl).mono fun e w' he => main _ e w' he ?_ q3
      rw [q1, prs_append, prs_append, h2]; rfl
theorem drop_ls (h : Ls w O b most N T K) (hN : N ≤ 998) (hx : (Lit.int .i64 x).wf = true) :
    Calls Try.prog 42 #[.pointer (some ⟨b, 0, none⟩), .int .i64 x] w fun e w' => e = .returned (.bool (hasK (T ++ K) x)) ∧ LsPost w O b most (N + 1) (dropS T K x).1 (dropS T K x).2 w' := by
  have hk := h.keys
  obtain ⟨v, TT, KK, h1, h2, h3, h4, h5⟩ := id h
  have hlk := look_has (TT ++ KK) x
  rw [prs_append, h2, h3] at hlk
  cases hl : look (TT ++ KK) x with
  | none =>
    rw [hl] at hlk
    have hh : hasK (T ++ K) x = false := hlk.symm
    refine (drop_no w b most v N TT KK x h1 hx hl).mono ?_
    rintro e w' ⟨rfl, rfl⟩
    rw [hh, (touch_of_no (most := most) hh).2]
    exact ⟨rfl, h.keep (by omega)⟩
  | some p =>
    obtain ⟨m, hm⟩ : ∃ m, v = .map (some m) := by
      rcases h1.mp with ⟨_, e2⟩ | ⟨m, e2, _⟩
      · rw [e2 x] at hl; cases hl
      · exact ⟨m, e2⟩
    subst hm
    rcases look_where hl with ⟨A, n, B, e1⟩ | ⟨A, n, B, e1⟩
    · subst e1
      obtain ⟨q1, q2, q3, q4⟩ := touch_of_trial (most := most) hk (A := prs A) (B := prs B) (x := x) (n := n) (by rw [← h2, prs_mid])
      refine (drop_trial w b m most N A B KK p x n h1 (by omega) hx hl).mono ?_
      rintro e w' ⟨rfl, k1, k2⟩
      rw [q3, q2]
      refine ⟨rfl, ⟨_, _, _, k1.mono (by omega), by rw [prs_append], h3, fun k hk => ?_, growO_lt h5 k2.size⟩, k2.mono fun i _ hi => h4 i hi⟩
      rcases hk with e | e | ⟨t, ht, e⟩
      · exact .inl (h4 k (.inl e))
      · exact .inl (h4 k (.inr (.inl e)))
      · exact .inl (h4 k (.inr (.inr ⟨t, by simp at ht ⊢; rcases ht with h | h | h <;> simp [h], e⟩)))
    · subst e1
      obtain ⟨q1, q2, q3, q4⟩ := touch_of_kept (most := most) hk (A := prs A) (B := prs B) (x := x) (n := n) (by rw [← h3, prs_mid])
      refine (drop_kept w b m most N A B TT p x n h1 (by omega) hx hl).mono ?_
      rintro e w' ⟨rfl, k1, k2⟩
      rw [q3, q2]
      refine ⟨rfl, ⟨_, _, _, k1.mono (by omega), h2, by rw [prs_append], fun k hk => ?_, growO_lt h5 k2.size⟩, k2.mono fun i _ hi => h4 i hi⟩
      rcases hk with e | e | ⟨t, ht, e⟩
      · exact .inl (h4 k (.inl e))
      · exact .inl (h4 k (.inr (.inl e)))
      · exact .inl (h4 k (.inr (.inr ⟨t, by simp at ht ⊢; rcases ht with h | h | h <;> simp [h], e⟩)))
theorem order_ls (h : Ls w O b most N T K) (hN : N ≤ 998) : Calls Try.prog 46 #[.pointer (some ⟨b, 0, none⟩)] w (OrdPost w (keysP (T ++ K))) := by
  obtain ⟨v, TT, KK, h1, h2, h3, h4, h5⟩ := h
  have := order_any w b most v N TT KK h1 (by omega)
  rw [prs_append, h2, h3] at this
  exact this
theorem new_ls (h : badMost most = false) :
    Calls Try.prog 25 #[.int .i64 most] w fun e w' => e = .returned (.tuple #[.pointer (some ⟨w.heap.size, 0, none⟩), .int .i64 0]) ∧ Ls w' (fun k => k = w.heap.size) w.heap.size most 0 [] [] ∧ Chg (fun _ => False) w w' := by
  refine (new_ok w most h).mono ?_
  rintro e w' ⟨rfl, h1, h2⟩
  refine ⟨rfl, ⟨.map none, [], [], h1, rfl, rfl, ?_, fun k hk => by rw [hk]; exact cell_lt h1.c0⟩, h2⟩
  rintro k (e | e | ⟨t, ht, _⟩)
  · exact e
  · cases e
  · cases ht
end

section
variable (w : World) (R : Nat → Prop) (r : Nat) (most : Int) (T K : List Pt) (x n : Int)
theorem radd_rf (h : Rf w R r most T K) (hl : T.length + K.length ≤ 998) :
    Calls Try.prog 36 #[.pointer (some ⟨r, 0, none⟩), .int .i64 x, .int .i64 n] w fun e w' => e = .returned (.int .i64 (addC T K x n)) ∧ RfPost w R r most (addT T K x n) K w' := by
  by_cases hn : n < 1 ∨ 1099511627776 < n
  · have hc : addC T K x n = 1 := by rw [addC, if_pos hn]
    refine (radd_few w r x n hn).mono ?_
    rintro e w' ⟨rfl, rfl⟩
    exact ⟨by rw [hc], by rw [addT, hc]; exact h.keep (Chg.refl _ _)⟩
  · obtain ⟨a1, c1, a2, c2, h1, h2, h3, h4, h5⟩ := id h
    cases hh : hasK T x || hasK K x with
    | true =>
      have hc : addC T K x n = 7 := by rw [addC, if_neg hn, hh]; rfl
      refine (radd_there w r most T K a1 c1 a2 c2 x n h1 (by omega) (by omega) hh).mono ?_
      rintro e w' ⟨rfl, rfl⟩
      exact ⟨by rw [hc], by rw [addT, hc]; exact h.keep (Chg.refl _ _)⟩
    | false =>
      have hc : addC T K x n = 0 := by rw [addC, if_neg hn, hh]; rfl
      have ht : addT T K x n = T ++ [(x, n)] := by rw [addT, if_pos hc]
      rw [hc, ht]
      rw [Bool.or_eq_false_iff] at hh
      refine (radd_yes w r most T K a1 c1 a2 c2 x n h1 (by omega) (by omega) hh.1 hh.2).mono ?_
      rintro e w' ⟨rfl, k⟩
      exact ⟨rfl, k.post h2 h3 h4 h5⟩
theorem rtouch_rf (h : Rf w R r most T K) (h0 : 0 ≤ most) (hl : T.length + K.length ≤ 998) (hk : (keysP (T ++ K)).Nodup) (hb : ∀ t ∈ T ++ K, 1 ≤ t.2 ∧ t.2 ≤ 1099511627776) :
    Calls Try.prog 40 #[.pointer (some ⟨r, 0, none⟩), .int .i64 x] w fun e w' => e = .returned (.bool (hasK (T ++ K) x)) ∧ RfPost w R r most (touchS most T K x).1 (touchS most T K x).2 w' := by
  obtain ⟨a1, c1, a2, c2, h1, h2, h3, h4, h5⟩ := id h
  cases hh : hasK (T ++ K) x with
  | false =>
    have hh' := hh
    rw [hasK_append, Bool.or_eq_false_iff] at hh'
    refine (rtouch_no w r x (take_no w r most T K a1 c1 a2 c2 x h1 hh'.1 hh'.2 (by omega))).mono ?_
    rintro e w' ⟨rfl, k⟩
    rw [(touch_of_no (most := most) hh).1]
    exact ⟨rfl, h.keep k⟩
  | true =>
    rcases where_is hh with ⟨A, n, B, e1⟩ | ⟨A, n, B, e1⟩
    · obtain ⟨q1, q2, q3, q4⟩ := touch_of_trial (most := most) hk e1
      obtain ⟨s1, s2, s3⟩ := sides hk e1
      have hlen : (A ++ B).length + 1 = T.length := by rw [e1]; simp; omega
      refine (rtouch_yes w r most T K (A ++ B) K a1 T.length c1 a2 K.length c2 x n h0 (by omega) (fun t ht => hb t (by rw [e1]; simp at ht ⊢; rcases ht with h | h | h | h <;> simp [h])) (take_trial w r most T K (A ++ B) A B a1 c1 a2 c2 x n h1 e1 rfl s1 (by omega))).mono ?_
      rintro e w' ⟨rfl, k⟩
      rw [q1]
      exact ⟨rfl, k.post h2 h3 h4 h5⟩
    · obtain ⟨q1, q2, q3, q4⟩ := touch_of_kept (most := most) hk e1
      obtain ⟨s1, s2, s3⟩ := sidesK hk e1
      have hlen : (A ++ B).length + 1 = K.length := by rw [e1]; simp; omega
      refine (rtouch_yes w r most T K T (A ++ B) a1 T.length c1 a2 K.length c2 x n h0 (by omega) (fun t ht => hb t (by rw [e1]; simp at ht ⊢; rcases ht with h | h | h | h <;> simp [h])) (take_kept w r most T K (A ++ B) A B a1 c1 a2 c2 x n h1 e1 rfl s2 s1 (by omega))).mono ?_
      rintro e w' ⟨rfl, k⟩
      rw [q1]
      exact ⟨rfl, k.post h2 h3 h4 h5⟩
theorem rdrop_rf (h : Rf w R r most T K) (hl : T.length + K.length ≤ 998) (hk : (keysP (T ++ K)).Nodup) :
    Calls Try.prog 43 #[.pointer (some ⟨r, 0, none⟩), .int .i64 x] w fun e w' => e = .returned (.bool (hasK (T ++ K) x)) ∧ RfPost w R r most (dropS T K x).1 (dropS T K x).2 w' := by
  obtain ⟨a1, c1, a2, c2, h1, h2, h3, h4, h5⟩ := id h
  cases hh : hasK (T ++ K) x with
  | false =>
    have hh' := hh
    rw [hasK_append, Bool.or_eq_false_iff] at hh'
    refine (rdrop_no w r x (take_no w r most T K a1 c1 a2 c2 x h1 hh'.1 hh'.2 (by omega))).mono ?_
    rintro e w' ⟨rfl, k⟩
    rw [(touch_of_no (most := most) hh).2]
    exact ⟨rfl, h.keep k⟩
  | true =>
    rcases where_is hh with ⟨A, n, B, e1⟩ | ⟨A, n, B, e1⟩
    · obtain ⟨q1, q2, q3, q4⟩ := touch_of_trial (most := most) hk e1
      obtain ⟨s1, s2, s3⟩ := sides hk e1
      refine (rdrop_yes w r most T K (A ++ B) K a1 T.length c1 a2 K.length c2 x n (take_trial w r most T K (A ++ B) A B a1 c1 a2 c2 x n h1 e1 rfl s1 (by omega))).mono ?_
      rintro e w' ⟨rfl, k⟩
      rw [q2]
      exact ⟨rfl, k.post h2 h3 h4 h5⟩
    · obtain ⟨q1, q2, q3, q4⟩ := touch_of_kept (most := most) hk e1
      obtain ⟨s1, s2, s3⟩ := sidesK hk e1
      refine (rdrop_yes w r most T K T (A ++ B) a1 T.length c1 a2 K.length c2 x n (take_kept w r most T K (A ++ B) A B a1 c1 a2 c2 x n h1 e1 rfl s2 s1 (by omega))).mono ?_
      rintro e w' ⟨rfl, k⟩
      rw [q2]
      exact ⟨rfl, k.post h2 h3 h4 h5⟩
theorem rorder_rf (h : Rf w R r most T K) (hl : T.length + K.length ≤ 998) : Calls Try.prog 55 #[.pointer (some ⟨r, 0, none⟩)] w (OrdPost w (keysP (T ++ K))) := by
  obtain ⟨a1, c1, a2, c2, h1, _⟩ := h
  exact rorder_any w r most T K a1 c1 a2 c2 h1 (by omega)
end
end Go.Proofs.Ytdoepjokaekckaa
