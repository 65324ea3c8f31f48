/- Who goes where there is room for all, plain; what Offer leaves there. -/
import Derived.Test.YtdoepjokaekckaaBq
namespace Go.Proofs.Ytdoepjokaekckaa
set_option linter.unusedVariables false
open Go.RowKit

theorem p1_id {share n : Int} {s : ByteArray} {X : List Tg} {p : Ps} (h : p.own + n ≤ share) : p1 share n s X p = p := by
  cases X with
  | nil => rfl
  | cons x X => exact p1_stop h
theorem p2_id {room n : Int} {X : List Tg} {p : Ps} (h : p.al + n ≤ room) : p2 room n X p = p := by
  cases X with
  | nil => rfl
  | cons x X => exact p2_stop h
theorem sumX_sub {L X : List Tg} (h : ∀ t ∈ X, 1 ≤ t.2.1) (hs : L.Sublist X) : 0 ≤ sumX L := sumX_nonneg fun t ht => h t (hs.subset ht)
theorem room_own {room share n : Int} {X : List Tg} {s : ByteArray} {hs : List Int} (hb : ∀ t ∈ X, 1 ≤ t.2.1) (h : sumX X + n ≤ room) : (∀ g ∈ (roomP room share X n s hs).G, g ∈ X ∧ g.2.2.1 = s) ∧ (ofX X s.data.toList + n ≤ share → (roomP room share X n s hs).G = [] ∧ roomB room share n (roomP room share X n s hs) = true) := by
  obtain ⟨L, a1, a2, a3, a4, a5, a6⟩ := p1_spec share n s X ⟨ofX X s.data.toList, sumX X, fun z => decide (z ∈ hs), []⟩
  have h0 := sumX_sub hb a1
  refine ⟨fun g hg => ?_, fun h1 => ?_⟩
  · unfold roomP at hg
    rw [p2_id (by rw [a3]; simp only; omega), a2] at hg
    exact ⟨a1.subset (by simpa using hg), (a5 g (by simpa using hg)).1⟩
  · have e : roomP room share X n s hs = ⟨ofX X s.data.toList, sumX X, fun z => decide (z ∈ hs), []⟩ := by
      unfold roomP
      rw [p1_id h1, p2_id h]
    rw [e]
    refine ⟨rfl, ?_⟩
    unfold roomB
    simp only
    rw [decP h1, decP h]; rfl
theorem sumX_le {X : List Tg} {m : Int} (h : ∀ t ∈ X, t.2.1 ≤ m) : sumX X ≤ m * X.length := by
  induction X with
  | nil => simp [sumX, pts, sumP]
  | cons t r ih =>
    have h1 := ih fun u hu => h u (List.mem_cons_of_mem _ hu)
    have h2 := h t (by simp)
    rw [sumX_cons, List.length_cons]
    have e : m * ((r.length + 1 : Nat) : Int) = m * r.length + m := by push_cast; rw [Int.mul_add]; omega
    rw [e]; omega
theorem off_room {w w' : World} {lab : Nat → Nat} {d : Nat} {room share : Int} {N : Nat} {T K : List Tg} {ns : List Int} {t : Tg} {e : Ending} (h : OffPost w lab d room share N T K ns t [] e w') (hD : Dr w lab d room share N T K ns) (hr : sumX (T ++ K) + t.2.1 ≤ room) (ht : 1 ≤ t.2.1 ∧ t.2.1 ≤ 1099511627776 ∧ t.2.2.1.size ≤ 200) (hno : (getX (T ++ K) t.1).isSome = false) :
    ∃ (ok : Bool) (G : List Tg) (a : Option Addr) (c : Nat) (lab' : Nat → Nat) (N' : Nat) (T' K' : List Tg), e = .returned (.tuple #[.bool ok, .slice a G.length c]) ∧ IsK w' a c (keyT G) ∧ (∀ q, (Value.slice a G.length c).ownBlock = some q → lab' q = 0 ∧ w.heap.size ≤ q) ∧ Dr w' lab' d room share N' T' K' ns ∧ Lab w lab lab' w' ∧ (ofX (T ++ K) t.2.2.1.data.toList + t.2.1 ≤ share → ok = true ∧ G = []) ∧ (∀ g ∈ G, g ∈ T ++ K ∧ g.2.2.1 = t.2.2.1) ∧ (ok = true → G.length + (T' ++ K').length = (T ++ K).length + 1) ∧ N' + 3 * (T' ++ K').length ≤ N + 3 * (T ++ K).length + 6 ∧ (T' ++ K').length ≤ (T ++ K).length + 1 ∧ ∀ u ∈ T' ++ K', u ∈ T ++ K ∨ u = t := by
  obtain ⟨bb, lb, sb, mb, h1, hi⟩ := id hD
  have hb : ∀ u ∈ T ++ K, 1 ≤ u.2.1 := fun u hu => (hi.each u hu).1.1
  obtain ⟨r1, r2⟩ := room_own (room := room) (share := share) (n := t.2.1) (s := t.2.2.1) (hs := []) hb hr
  rcases h with ⟨h, rfl, hc⟩ | ⟨h, a, c, lab', rfl, ho, hf, hd, hl⟩
  · refine ⟨false, [], none, 0, lab, N, T, K, rfl, isK_nil _, (fun q hq => by cases hq), hD.still hc, Lab.still hc, fun hf => ?_, (fun g hg => (List.not_mem_nil hg).elim), (fun h => by cases h), by omega, by omega, fun u hu => .inl hu⟩
    obtain ⟨q1, q2⟩ := r2 hf
    rw [offB_yes ht hno q2 (fun g hg => by
      have : g ∈ (roomP room share (T ++ K) t.2.1 t.2.2.1 []).G := hg
      rw [q1] at this; cases this)] at h
    cases h
  · obtain ⟨z, hz⟩ : ∃ z, z = goesX room share T K t [] := ⟨_, rfl⟩
    have hz' : roomP room share (T ++ K) t.2.1 t.2.2.1 [] = z := hz.symm
    rw [← hz] at ho hf hd ⊢
    rw [hz'] at r1 r2
    have hrb : roomB room share t.2.1 z = true := by
      unfold offB at h
      rw [← hz] at h
      simp only [Bool.and_eq_true] at h
      exact h.1.2
    obtain ⟨⟨T2, K2⟩, hd2⟩ : ∃ D, D = dropsX T K z.G := ⟨_, rfl⟩
    have hfit := offer_fit (n := t.2.1) (s := t.2.2.1) (hs := []) hi (by rw [hz']; exact hrb) (T2 := T2) (K2 := K2) (by rw [hz']; exact hd2.symm)
    rw [hz'] at hfit
    have hlen : (T ++ K).length = z.G.length + (T2 ++ K2).length := by rw [hfit.2.2.2.2.length_eq, List.length_append]
    rw [← hd2] at hd
    have hlen2 : (T2 ++ [t] ++ K2).length = (T2 ++ K2).length + 1 := by simp; omega
    have hk : z.G.length = (keyT z.G).length := by simp [keyT]
    refine ⟨true, z.G, a, c, lab', N + 3 * z.G.length + 3, T2 ++ [t], K2, rfl, ?_, fun q hq => ⟨hf q hq, (own_below ho hq).1⟩, hd, hl, fun hf => ⟨rfl, (r2 hf).1⟩, r1, fun _ => by omega, by omega, by omega, fun u hu => ?_⟩
    · show RdS w' 1 a (keyT z.G).length c (nums (keyT z.G))
      rw [← hk]; exact RdS.row ho (nums_one _)
    · have : u ∈ (T2 ++ K2) ∨ u = t := by
        simp only [List.mem_append, List.mem_singleton] at hu ⊢
        rcases hu with (hu | hu) | hu
        · exact .inl (.inl hu)
        · exact .inr hu
        · exact .inl (.inr hu)
      rcases this with hu | hu
      · exact .inl (hfit.2.2.2.2.mem_iff.2 (List.mem_append_right _ hu))
      · exact .inr hu
end Go.Proofs.Ytdoepjokaekckaa
