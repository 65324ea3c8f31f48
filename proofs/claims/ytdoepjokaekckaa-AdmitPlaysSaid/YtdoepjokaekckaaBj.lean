/- Who goes for a thing, and what is left, plain. -/
import Derived.Test.YtdoepjokaekckaaBi
namespace Go.Proofs.Ytdoepjokaekckaa
set_option linter.unusedVariables false

def keyT (X : List Tg) : List Int := X.map (·.1)
theorem keyT_pts (X : List Tg) : keysP (pts X) = keyT X := keysX X
theorem keyT_append (A B : List Tg) : keyT (A ++ B) = keyT A ++ keyT B := by simp [keyT]
theorem p1_spec (share n : Int) (s : ByteArray) : ∀ (X : List Tg) (p : Ps), ∃ L, L.Sublist X ∧ (p1 share n s X p).G = p.G ++ L ∧ (p1 share n s X p).al = p.al - sumX L ∧ (p1 share n s X p).own = p.own - sumX L ∧ (∀ t ∈ L, t.2.2.1 = s ∧ p.Y t.1 = false) ∧ ∀ z, (p1 share n s X p).Y z = true ↔ p.Y z = true ∨ z ∈ keyT L
  | [], p => ⟨[], List.Sublist.refl _, by simp [p1], by simp [p1, sumX, pts, sumP], by simp [p1, sumX, pts, sumP], fun t h => (List.not_mem_nil h).elim, fun z => by simp [p1, keyT]⟩
  | x :: X, p => by
    by_cases h : p.own + n ≤ share
    · rw [p1_stop h]
      exact ⟨[], List.nil_sublist _, by simp, by simp [sumX, pts, sumP], by simp [sumX, pts, sumP], fun t h => (List.not_mem_nil h).elim, fun z => by simp [keyT]⟩
    · by_cases h2 : x.2.2.1 = s ∧ p.Y x.1 = false
      · rw [p1_take h h2.1 h2.2]
        obtain ⟨L, a1, a2, a3, a4, a5, a6⟩ := p1_spec share n s X ⟨p.own - x.2.1, p.al - x.2.1, fun z => if z = x.1 then true else p.Y z, p.G ++ [x]⟩
        refine ⟨x :: L, a1.cons_cons x, by rw [a2]; simp, by rw [a3, sumX_cons]; simp only; omega, by rw [a4, sumX_cons]; simp only; omega, fun t ht => ?_, fun z => ?_⟩
        · rcases List.mem_cons.1 ht with rfl | ht
          · exact h2
          · obtain ⟨b1, b2⟩ := a5 t ht
            refine ⟨b1, ?_⟩
            simp only at b2
            split at b2
            · cases b2
            · exact b2
        · rw [a6 z]
          simp only [keyT, List.map_cons, List.mem_cons]
          by_cases e : z = x.1
          · simp [e]
          · simp [e]
      · rw [p1_pass h h2]
        obtain ⟨L, a1, a2, a3, a4, a5, a6⟩ := p1_spec share n s X p
        exact ⟨L, a1.cons x, a2, a3, a4, a5, a6⟩
theorem p2_spec (room n : Int) : ∀ (X : List Tg) (p : Ps), ∃ L, L.Sublist X ∧ (p2 room n X p).G = p.G ++ L ∧ (p2 room n X p).al = p.al - sumX L ∧ (p2 room n X p).own = p.own ∧ ∀ t ∈ L, p.Y t.1 = false
  | [], p => ⟨[], List.Sublist.refl _, by simp [p2], by simp [p2, sumX, pts, sumP], rfl, fun t h => (List.not_mem_nil h).elim⟩
  | x :: X, p => by
    by_cases h : p.al + n ≤ room
    · rw [p2_stop h]
      exact ⟨[], List.nil_sublist _, by simp, by simp [sumX, pts, sumP], rfl, fun t h => (List.not_mem_nil h).elim⟩
    · cases h2 : p.Y x.1 with
      | false =>
        rw [p2_take h h2]
        obtain ⟨L, a1, a2, a3, a4, a5⟩ := p2_spec room n X ⟨p.own, p.al - x.2.1, p.Y, p.G ++ [x]⟩
        refine ⟨x :: L, a1.cons_cons x, by rw [a2]; simp, by rw [a3, sumX_cons]; simp only; omega, a4, fun t ht => ?_⟩
        rcases List.mem_cons.1 ht with rfl | ht
        · exact h2
        · exact a5 t ht
      | true =>
        rw [p2_pass h h2]
        obtain ⟨L, a1, a2, a3, a4, a5⟩ := p2_spec room n X p
        exact ⟨L, a1.cons x, a2, a3, a4, a5⟩
/-- Who goes: things that are in, none held, each once; first the tenant's own. -/
theorem room_spec {room share n : Int} {X : List Tg} {s : ByteArray} {hs : List Int} (hn : (keyT X).Nodup) : ∃ L1 L2, (roomP room share X n s hs).G = L1 ++ L2 ∧ L1.Sublist X ∧ L2.Sublist X ∧ (keyT (L1 ++ L2)).Nodup ∧ (∀ t ∈ L1, t.2.2.1 = s) ∧ (∀ t ∈ L1 ++ L2, t.1 ∉ hs) ∧ (roomP room share X n s hs).al = sumX X - sumX (L1 ++ L2) ∧ (roomP room share X n s hs).own = ofX X s.data.toList - sumX L1 := by
  obtain ⟨L1, a1, a2, a3, a4, a5, a6⟩ := p1_spec share n s X ⟨ofX X s.data.toList, sumX X, fun z => decide (z ∈ hs), []⟩
  obtain ⟨L2, b1, b2, b3, b4, b5⟩ := p2_spec room n X (p1 share n s X ⟨ofX X s.data.toList, sumX X, fun z => decide (z ∈ hs), []⟩)
  have hb : ∀ t ∈ L2, t.1 ∉ hs ∧ t.1 ∉ keyT L1 := fun t ht => by
    have h1 := b5 t ht
    have h2 := a6 t.1
    rw [h1] at h2
    simp only [Bool.false_eq_true, false_iff, not_or, decide_eq_true_eq] at h2
    exact h2
  refine ⟨L1, L2, by unfold roomP; rw [b2, a2]; rfl, a1, b1, ?_, fun t ht => (a5 t ht).1, fun t ht => ?_, by unfold roomP; rw [b3, a3, sumX_append]; simp only; omega, by unfold roomP; rw [b4, a4]⟩
  · rw [keyT_append, List.nodup_append]
    refine ⟨hn.sublist (a1.map _), hn.sublist (b1.map _), fun u hu v hv e => ?_⟩
    subst e
    obtain ⟨t, ht, rfl⟩ := List.mem_map.1 hv
    exact (hb t ht).2 hu
  · rcases List.mem_append.1 ht with ht | ht
    · have := (a5 t ht).2
      simpa using this
    · exact (hb t ht).1
/-- These go, one by one. -/
def dropsX (T K : List Tg) (G : List Tg) : List Tg × List Tg := (G.foldl (fun T t => delX T t.1) T, G.foldl (fun K t => delX K t.1) K)
theorem drops_snoc (T K A : List Tg) (g : Tg) : dropsX T K (A ++ [g]) = (delX (dropsX T K A).1 g.1, delX (dropsX T K A).2 g.1) := by simp [dropsX]
theorem drops_perm : ∀ (G T K : List Tg), (keyT (T ++ K)).Nodup → (keyT G).Nodup → (∀ g ∈ G, g ∈ T ++ K) → (T ++ K).Perm (G ++ ((dropsX T K G).1 ++ (dropsX T K G).2))
  | [], T, K, _, _, _ => List.Perm.refl _
  | g :: G, T, K, hn, hg, hm => by
    have hn' : (keysP (pts (T ++ K))).Nodup := by rw [keyT_pts]; exact hn
    have h1 := drop_perm hn' ((getX_mem hn').2 (hm g (by simp)))
    have hg' := hg
    simp only [keyT, List.map_cons, List.nodup_cons] at hg'
    have hn2 : (keyT (delX T g.1 ++ delX K g.1)).Nodup := by
      have := nodup_permX h1 hn'
      rw [keyT_pts] at this
      simp only [keyT, List.map_cons, List.nodup_cons] at this
      exact this.2
    refine h1.trans (List.Perm.cons g (drops_perm G _ _ hn2 hg'.2 fun u hu => ?_))
    rcases List.mem_cons.1 (h1.mem_iff.1 (hm u (List.mem_cons_of_mem _ hu))) with e | h
    · subst e
      exact absurd (List.mem_map.2 ⟨u, hu, rfl⟩) hg'.1
    · exact h
theorem drops_next {T K A B : List Tg} {g : Tg} (hn : (keyT (T ++ K)).Nodup) (hg : (keyT (A ++ g :: B)).Nodup) (hm : ∀ u ∈ A ++ g :: B, u ∈ T ++ K) : getX ((dropsX T K A).1 ++ (dropsX T K A).2) g.1 = some g := by
  have hA : (keyT A).Nodup := by rw [keyT_append, List.nodup_append] at hg; exact hg.1
  have p := drops_perm A T K hn hA fun u hu => hm u (by simp [hu])
  have hn2 : (keysP (pts (A ++ ((dropsX T K A).1 ++ (dropsX T K A).2)))).Nodup := nodup_permX p (by rw [keyT_pts]; exact hn)
  rw [keyT_pts, keyT_append, List.nodup_append] at hn2
  refine (getX_mem (by rw [keyT_pts]; exact hn2.2.1)).2 ?_
  rcases List.mem_append.1 (p.mem_iff.1 (hm g (by simp))) with h | h
  · rw [keyT_append, List.nodup_append] at hg
    exact absurd rfl (hg.2.2 g.1 (List.mem_map.2 ⟨g, h, rfl⟩) g.1 (by simp [keyT]))
  · exact h
theorem sumX_of_le {L : List Tg} (h : ∀ t ∈ L, 1 ≤ t.2.1) {s : ByteArray} (hs : ∀ t ∈ L, t.2.2.1 = s) : ofX L s.data.toList = sumX L := by
  unfold ofX
  rw [List.filter_eq_self.2]
  intro t ht
  simp [ten, hs t ht]
/-- What is left behind those that go: room and share for the thing that comes. -/
theorem offer_fit {room share n : Int} {T K : List Tg} {s : ByteArray} {hs : List Int} (h : DInv room share T K) (hb : roomB room share n (roomP room share (T ++ K) n s hs) = true) {T2 K2 : List Tg} (hd : dropsX T K (roomP room share (T ++ K) n s hs).G = (T2, K2)) :
    sumX (T2 ++ K2) + n ≤ room ∧ ofX (T2 ++ K2) s.data.toList + n ≤ share ∧ (∀ g ∈ (roomP room share (T ++ K) n s hs).G, g ∈ T ++ K) ∧ (keyT (roomP room share (T ++ K) n s hs).G).Nodup ∧ (T ++ K).Perm ((roomP room share (T ++ K) n s hs).G ++ (T2 ++ K2)) := by
  have hn : (keyT (T ++ K)).Nodup := by rw [← keyT_pts]; exact h.nodup
  obtain ⟨L1, L2, a1, a2, a3, a4, a5, a6, a7, a8⟩ := room_spec (room := room) (share := share) (n := n) (s := s) (hs := hs) hn
  have hm : ∀ g ∈ L1 ++ L2, g ∈ T ++ K := fun g hg => by
    rcases List.mem_append.1 hg with hg | hg
    · exact a2.subset hg
    · exact a3.subset hg
  rw [a1] at hd ⊢
  have p := drops_perm (L1 ++ L2) T K hn a4 hm
  rw [hd] at p
  unfold roomB at hb
  rw [Bool.and_eq_true, decide_eq_true_eq, decide_eq_true_eq, a7, a8] at hb
  have p : (T ++ K).Perm ((L1 ++ L2) ++ (T2 ++ K2)) := p
  have e1 : sumX (T ++ K) = sumX (L1 ++ L2) + sumX (T2 ++ K2) := by rw [sumX_perm p, sumX_append (L1 ++ L2)]
  have e2 : ofX (T ++ K) s.data.toList = sumX L1 + ofX L2 s.data.toList + ofX (T2 ++ K2) s.data.toList := by rw [ofX_perm p, ofX_append (L1 ++ L2), ofX_append L1, sumX_of_le (fun t ht => (h.each t (a2.subset ht)).1.1) a5]
  have e3 := ofX_nonneg (X := L2) (fun t ht => (h.each t (a3.subset ht)).1.1) s.data.toList
  exact ⟨by omega, by omega, hm, a4, p⟩
theorem offer_inv {room share n x nm : Int} {T2 K2 : List Tg} {s : ByteArray} (h : DInv room share T2 K2) (h1 : sumX (T2 ++ K2) + n ≤ room) (h2 : ofX (T2 ++ K2) s.data.toList + n ≤ share) (hn : 1 ≤ n ∧ n ≤ 1099511627776) (hs : s.size ≤ 200) (hx : -9223372036854775808 ≤ x ∧ x ≤ 9223372036854775807) (hm : 0 ≤ nm ∧ nm ≤ 18446744073709551615) (hg : getX (T2 ++ K2) x = none) :
    DInv room share (T2 ++ [(x, n, s, nm)]) K2 ∧ sumX (T2 ++ K2) + n = sumX (T2 ++ [(x, n, s, nm)] ++ K2) ∧ (fun y => if y = s.data.toList then ofX (T2 ++ K2) s.data.toList + n else ofX (T2 ++ K2) y) = ofX (T2 ++ [(x, n, s, nm)] ++ K2) ∧ (fun z => if z = x then some (x, n, s, nm) else getX (T2 ++ K2) z) = getX (T2 ++ [(x, n, s, nm)] ++ K2) := by
  have p : (T2 ++ [(x, n, s, nm)] ++ K2).Perm ((x, n, s, nm) :: (T2 ++ K2)) := by
    rw [List.append_assoc]; exact List.perm_middle
  have hk : x ∉ keyT (T2 ++ K2) := by
    have := getX_has (T2 ++ K2) x
    rw [hg] at this
    rw [← keyT_pts]
    exact hasK_not.1 this.symm
  have hn2 : (keysP (pts ((x, n, s, nm) :: (T2 ++ K2)))).Nodup := by
    rw [keyT_pts]
    have := h.nodup
    rw [keyT_pts] at this
    simp only [keyT, List.map_cons, List.nodup_cons]
    exact ⟨hk, this⟩
  have e1 : sumX (T2 ++ [(x, n, s, nm)] ++ K2) = n + sumX (T2 ++ K2) := by rw [sumX_perm p, sumX_cons]
  have e2 : ∀ y, ofX (T2 ++ [(x, n, s, nm)] ++ K2) y = (if y = s.data.toList then n else 0) + ofX (T2 ++ K2) y := fun y => by rw [ofX_perm p, ofX_cons]; rfl
  refine ⟨⟨nodup_permX p.symm hn2, fun t ht => ?_, by rw [e1]; omega, fun y => ?_, h.bd⟩, by rw [e1]; omega, funext fun y => ?_, funext fun z => ?_⟩
  · rcases List.mem_cons.1 (p.mem_iff.1 ht) with rfl | ht
    · exact ⟨hn, hs, hx, hm⟩
    · exact h.each t ht
  · rw [e2]
    have := h.own y
    split
    · rename_i e; subst e; omega
    · omega
  · rw [e2]
    by_cases e : y = s.data.toList
    · rw [if_pos e, if_pos e, e]; omega
    · rw [if_neg e, if_neg e]; omega
  · rw [getX_perm p (nodup_permX p.symm hn2)]
    unfold getX
    rw [List.find?_cons]
    by_cases e : z = x
    · subst e
      have : isX z (z, n, s, nm) = true := by simp [isX]
      rw [this]; simp
    · have : isX z (x, n, s, nm) = false := by simp only [isX, beq_eq_false_iff_ne]; exact fun h => e h.symm
      rw [this]; simp [e]
end Go.Proofs.Ytdoepjokaekckaa
