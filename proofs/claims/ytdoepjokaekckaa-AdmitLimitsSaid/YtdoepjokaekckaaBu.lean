/- What Offer leaves, whatever is offered; the door behind so many acts. -/
import Derived.Test.YtdoepjokaekckaaBs
import Derived.Test.YtdoepjokaekckaaBt
namespace Go.Proofs.Ytdoepjokaekckaa
set_option linter.unusedVariables false
open Go.RowKit

theorem getX_none_of {X : List Tg} {x : Int} (h : ∀ t ∈ X, t.1 ≠ x) : getX X x = none := by
  cases e : getX X x with
  | none => rfl
  | some u => obtain ⟨e1, e2, _⟩ := getX_at e; exact absurd e1 (h u e2)
theorem getX_isSome {X : List Tg} {x : Int} : (getX X x).isSome = true ↔ ∃ t ∈ X, t.1 = x := by
  constructor
  · intro h
    cases e : getX X x with
    | none => rw [e] at h; cases h
    | some u => obtain ⟨e1, e2, _⟩ := getX_at e; exact ⟨u, e2, e1⟩
  · rintro ⟨t, ht, rfl⟩
    cases e : getX X t.1 with
    | none =>
      unfold getX at e
      have := List.find?_eq_none.1 e t ht
      simp [isX] at this
    | some u => rfl
theorem off_all {w w' : World} {lab : Nat → Nat} {d : Nat} {room share : Int} {N : Nat} {T K : List Tg} {ns : List Int} {t : Tg} {hs : List Int} {e : Ending} (h : OffPost w lab d room share N T K ns t hs e w') (hD : Dr w lab d room share N T K ns) :
    ∃ (ok : Bool) (G : List Tg) (a : Option Addr) (c : Nat) (lab' : Nat → Nat) (N' : Nat) (T' K' : List Tg), e = .returned (.tuple #[.bool ok, .slice a G.length c]) ∧ IsK w' a c (keyT G) ∧ (∀ q, (Value.slice a G.length c).ownBlock = some q → lab' q = 0 ∧ w.heap.size ≤ q) ∧ Dr w' lab' d room share N' T' K' ns ∧ Lab w lab lab' w' ∧
      ((ok = true ∧ (getX (T ++ K) t.1).isSome = false ∧ (getX (T' ++ K') t.1).isSome = true) ∨ (ok = false ∧ (getX (T ++ K) t.1).isSome = true ∧ (getX (T' ++ K') t.1).isSome = true ∧ G.length = 0) ∨ (ok = false ∧ (getX (T ++ K) t.1).isSome = false ∧ (getX (T' ++ K') t.1).isSome = false ∧ G.length = 0)) ∧
      (∀ g ∈ G, (getX (T' ++ K') g.1).isSome = false ∧ -9223372036854775808 ≤ g.1 ∧ g.1 ≤ 9223372036854775807) ∧ (∀ y ∈ hs, (getX (T ++ K) y).isSome = true → (getX (T' ++ K') y).isSome = true) ∧ N' + 3 * (T' ++ K').length ≤ N + 3 * (T ++ K).length + 6 ∧ (T' ++ K').length ≤ (T ++ K).length + 1 := by
  obtain ⟨bb, lb, sb, mb, h1, hi⟩ := id hD
  rcases h with ⟨h, rfl, hc⟩ | ⟨h, a, c, lab', rfl, ho, hf, hd, hl⟩
  · refine ⟨false, [], none, 0, lab, N, T, K, rfl, isK_nil _, (fun q hq => by cases hq), hD.still hc, Lab.still hc, ?_, (fun g hg => (List.not_mem_nil hg).elim), fun y _ h => h, by omega, by omega⟩
    cases e : (getX (T ++ K) t.1).isSome with
    | true => exact .inr (.inl ⟨rfl, rfl, rfl, rfl⟩)
    | false => exact .inr (.inr ⟨rfl, rfl, rfl, rfl⟩)
  · obtain ⟨z, hz⟩ : ∃ z, z = goesX room share T K t hs := ⟨_, rfl⟩
    have hz' : roomP room share (T ++ K) t.2.1 t.2.2.1 hs = z := hz.symm
    rw [← hz] at ho hf hd ⊢
    have hB := h
    unfold offB at h
    rw [← hz] at h
    simp only [Bool.and_eq_true] at h
    have hrb : roomB room share t.2.1 z = true := h.1.2
    have hno : (getX (T ++ K) t.1).isSome = false := by
      have := h.1.1.2
      cases e : getX (T ++ K) t.1 with
      | none => rfl
      | some u => rw [e] at this; cases this
    obtain ⟨⟨T2, K2⟩, hd2⟩ : ∃ D, D = dropsX T K z.G := ⟨_, rfl⟩
    have hfit := offer_fit (n := t.2.1) (s := t.2.2.1) (hs := hs) hi (by rw [hz']; exact hrb) (T2 := T2) (K2 := K2) (by rw [hz']; exact hd2.symm)
    rw [hz'] at hfit
    obtain ⟨f1, f2, f3, f4, f5⟩ := hfit
    have hn : (keyT (T ++ K)).Nodup := by rw [← keyT_pts]; exact hi.nodup
    obtain ⟨L1, L2, r1, r2, r3, r4, r5, r6, r7, r8⟩ := room_spec (room := room) (share := share) (n := t.2.1) (s := t.2.2.1) (hs := hs) hn
    rw [hz'] at r1
    have hlen : (T ++ K).length = z.G.length + (T2 ++ K2).length := by rw [f5.length_eq, List.length_append]
    rw [← hd2] at hd
    have hlen2 : (T2 ++ [t] ++ K2).length = (T2 ++ K2).length + 1 := by simp; omega
    have hk : z.G.length = (keyT z.G).length := by simp [keyT]
    have hmem : ∀ u, u ∈ T2 ++ [t] ++ K2 ↔ u ∈ T2 ++ K2 ∨ u = t := fun u => by
      simp only [List.mem_append, List.mem_singleton]
      constructor
      · rintro ((hu | hu) | hu)
        · exact .inl (.inl hu)
        · exact .inr hu
        · exact .inl (.inr hu)
      · rintro ((hu | hu) | hu)
        · exact .inl (.inl hu)
        · exact .inr hu
        · exact .inl (.inr hu)
    have hn2 : (keyT (z.G ++ (T2 ++ K2))).Nodup := (f5.map (fun t : Tg => t.1)).nodup_iff.1 hn
    rw [keyT_append, List.nodup_append] at hn2
    refine ⟨true, z.G, a, c, lab', N + 3 * z.G.length + 3, T2 ++ [t], K2, rfl, ?_, fun q hq => ⟨hf q hq, (own_below ho hq).1⟩, hd, hl, .inl ⟨rfl, hno, getX_isSome.2 ⟨t, (hmem t).2 (.inr rfl), rfl⟩⟩, fun g hg => ⟨?_, (hi.each g (f3 g hg)).2.2.1⟩, fun y hy hs' => ?_, by omega, by omega⟩
    · show RdS w' 1 a (keyT z.G).length c (nums (keyT z.G))
      rw [← hk]; exact RdS.row ho (nums_one _)
    · have : getX (T2 ++ [t] ++ K2) g.1 = none := getX_none_of fun u hu e => by
        rcases (hmem u).1 hu with hu | hu
        · exact hn2.2.2 g.1 (List.mem_map.2 ⟨g, hg, rfl⟩) u.1 (List.mem_map.2 ⟨u, hu, rfl⟩) e.symm
        · subst hu
          have h2 := (getX_isSome (x := u.1)).2 ⟨g, f3 g hg, e.symm⟩
          rw [hno] at h2; cases h2
      rw [this]; rfl
    · obtain ⟨u, hu, rfl⟩ := getX_isSome.1 hs'
      refine getX_isSome.2 ⟨u, (hmem u).2 (.inl ?_), rfl⟩
      rcases List.mem_append.1 (f5.mem_iff.1 hu) with hg | hg
      · rw [r1] at hg
        exact absurd hy (r6 u hg)
      · exact hg
/-- The door behind k acts. -/
structure LmI (w0 : World) (lab : Nat → Nat) (d : Nat) (room own : Int) (N : Nat) (T K : List Tg) (ns : List Int) (k : Nat) (wr : World) : Prop where
  dr : Dr wr lab d room own N T K ns
  g : Chg (fun _ => False) w0 wr
  z : ∀ i, i < w0.heap.size → lab i = 0
  n : N + 3 * (T ++ K).length ≤ 6 * k
  s : ns.length ≤ k
  l : (T ++ K).length ≤ k
theorem LmI.next {w0 wr w' : World} {lab lab' : Nat → Nat} {d : Nat} {room own : Int} {N : Nat} {T K : List Tg} {ns : List Int} {k : Nat} (h : LmI w0 lab d room own N T K ns k wr) (hl : Lab wr lab lab' w') {N' : Nat} {T' K' : List Tg} {ns' : List Int} {k' : Nat} (hd : Dr w' lab' d room own N' T' K' ns') (hn : N' + 3 * (T' ++ K').length ≤ 6 * k') (hs : ns'.length ≤ k') (hk : (T' ++ K').length ≤ k') : LmI w0 lab' d room own N' T' K' ns' k' w' :=
  ⟨hd, h.g.trans hl.2 fun i hi e => by have := h.z i hi; omega, fun i hi => by rw [hl.1 i (Nat.lt_of_lt_of_le hi h.g.size)]; exact h.z i hi, hn, hs, hk⟩
theorem LmI.still {w0 wr w' : World} {lab : Nat → Nat} {d : Nat} {room own : Int} {N : Nat} {T K : List Tg} {ns : List Int} {k : Nat} (h : LmI w0 lab d room own N T K ns k wr) (c : Chg (fun _ => False) wr w') : LmI w0 lab d room own N T K ns k w' := ⟨h.dr.still c, h.g.trans c fun _ _ h => h, h.z, h.n, h.s, h.l⟩
theorem LmI.up {w0 wr : World} {lab : Nat → Nat} {d : Nat} {room own : Int} {N : Nat} {T K : List Tg} {ns : List Int} {k : Nat} (h : LmI w0 lab d room own N T K ns k wr) : LmI w0 lab d room own N T K ns (k + 1) wr := ⟨h.dr, h.g, h.z, by have := h.n; omega, by have := h.s; omega, by have := h.l; omega⟩
/-- What a walk over things has summed. -/
theorem sumX_take {X : List Tg} {k : Nat} {t : Tg} (h : X[k]? = some t) : sumX (X.take (k + 1)) = sumX (X.take k) + t.2.1 := by
  rw [List.take_add_one, h]
  show sumX (X.take k ++ [t]) = _
  rw [sumX_append, sumX_cons]
  simp [sumX, pts, sumP]
theorem ofX_take {X : List Tg} {k : Nat} {t : Tg} (h : X[k]? = some t) (s : List UInt8) : ofX (X.take (k + 1)) s = if s = ten t then ofX (X.take k) (ten t) + t.2.1 else ofX (X.take k) s := by
  rw [List.take_add_one, h]
  show ofX (X.take k ++ [t]) s = _
  rw [ofX_append, ofX_cons]
  have : ofX [] s = 0 := by simp [ofX, sumX, pts, sumP]
  rw [this]
  by_cases e : s = ten t
  · rw [if_pos e, if_pos e, e]; omega
  · rw [if_neg e, if_neg e]; omega
theorem sumX_take_le {X : List Tg} (hb : ∀ t ∈ X, 1 ≤ t.2.1) (k : Nat) : 0 ≤ sumX (X.take k) ∧ sumX (X.take k) ≤ sumX X := by
  have h1 := sumX_nonneg (X := X.take k) fun t ht => hb t (List.mem_of_mem_take ht)
  have h2 := sumX_nonneg (X := X.drop k) fun t ht => hb t (List.mem_of_mem_drop ht)
  have h3 : sumX X = sumX (X.take k) + sumX (X.drop k) := by rw [← sumX_append, List.take_append_drop]
  omega
theorem ofX_take_le {X : List Tg} (hb : ∀ t ∈ X, 1 ≤ t.2.1) (k : Nat) (s : List UInt8) : 0 ≤ ofX (X.take k) s ∧ ofX (X.take k) s ≤ ofX X s := by
  have h1 := ofX_nonneg (X := X.take k) (fun t ht => hb t (List.mem_of_mem_take ht)) s
  have h2 := ofX_nonneg (X := X.drop k) (fun t ht => hb t (List.mem_of_mem_drop ht)) s
  have h3 : ofX X s = ofX (X.take k) s + ofX (X.drop k) s := by rw [← ofX_append, List.take_append_drop]
  omega
end Go.Proofs.Ytdoepjokaekckaa
