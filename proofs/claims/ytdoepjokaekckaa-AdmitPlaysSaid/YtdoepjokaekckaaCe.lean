/- Both doors in one world: what each call makes of them. -/
import Derived.Test.YtdoepjokaekckaaCd
namespace Go.Proofs.Ytdoepjokaekckaa
set_option linter.unusedVariables false
open Go.RowKit

section
variable (room share : Int) (T K : List Tg) (ns : List Int) (t : Tg) (hs : List Int)
def offG : List Tg := if offB room share T K ns t hs then (goesX room share T K t hs).G else []
def offT : List Tg := if offB room share T K ns t hs then (dropsX T K (goesX room share T K t hs).G).1 ++ [t] else T
def offK : List Tg := if offB room share T K ns t hs then (dropsX T K (goesX room share T K t hs).G).2 else K
end
theorem off_len {room share : Int} {T K : List Tg} {ns : List Int} {t : Tg} {hs : List Int} (hi : DInv room share T K) (h : offB room share T K ns t hs = true) : (T ++ K).length + 1 = (goesX room share T K t hs).G.length + ((dropsX T K (goesX room share T K t hs).G).1 ++ [t] ++ (dropsX T K (goesX room share T K t hs).G).2).length := by
  unfold offB at h
  simp only [Bool.and_eq_true] at h
  obtain ⟨⟨T2, K2⟩, hd2⟩ : ∃ D, D = dropsX T K (goesX room share T K t hs).G := ⟨_, rfl⟩
  have hfit := offer_fit (n := t.2.1) (s := t.2.2.1) (hs := hs) hi h.1.2 (T2 := T2) (K2 := K2) hd2.symm
  have h5 := hfit.2.2.2.2.length_eq
  rw [← hd2]
  rw [List.length_append, List.length_append] at h5
  simp only [List.length_append, List.length_cons, List.length_nil] at h5 ⊢
  unfold goesX
  omega
theorem isK_of {w : World} {B : Nat} {a : Option Addr} {c : Nat} {G : List Tg} (h : w.ownsRow B 2 1 (.slice a G.length c) G.length (nums (keyT G))) : IsK w a c (keyT G) := by
  show RdS w 1 a (keyT G).length c (nums (keyT G))
  rw [keyT_len]; exact RdS.row h (nums_one _)
theorem off_nf {w w' : World} {lab : Nat → Nat} {d : Nat} {room share : Int} {N : Nat} {T K : List Tg} {ns : List Int} {t : Tg} {hs : List Int} {e : Ending} (h : OffPost w lab d room share N T K ns t hs e w') (hD : Dr w lab d room share N T K ns) :
    ∃ (a : Option Addr) (c : Nat) (lab' : Nat → Nat) (N' : Nat), e = .returned (.tuple #[.bool (offB room share T K ns t hs), .slice a (offG room share T K ns t hs).length c]) ∧ IsK w' a c (keyT (offG room share T K ns t hs)) ∧ (∀ q, (Value.slice a (offG room share T K ns t hs).length c).ownBlock = some q → lab' q = 0 ∧ w.heap.size ≤ q) ∧ Dr w' lab' d room share N' (offT room share T K ns t hs) (offK room share T K ns t hs) ns ∧ Lab w lab lab' w' ∧ N' + 3 * (offT room share T K ns t hs ++ offK room share T K ns t hs).length ≤ N + 3 * (T ++ K).length + 6 ∧ (offT room share T K ns t hs ++ offK room share T K ns t hs).length ≤ (T ++ K).length + 1 := by
  unfold offG offT offK
  rcases h with ⟨h, rfl, hc⟩ | ⟨h, a, c, lab', rfl, ho, hf, hd, hl⟩
  · rw [h]
    exact ⟨none, 0, lab, N, rfl, isK_nil _, (fun q hq => by cases hq), hD.still hc, Lab.still hc, by simp, by simp⟩
  · have hi : DInv room share T K := by obtain ⟨bb, lb, sb, mb, _, z⟩ := hD; exact z
    have h9 := off_len hi h
    rw [h]
    refine ⟨a, c, lab', _, rfl, isK_of ho, fun q hq => ⟨hf q hq, (own_below ho hq).1⟩, hd, hl, ?_, ?_⟩
    · simp only [if_true]; omega
    · simp only [if_true]; omega
theorem roff_nf {w w' : World} {lr : Nat → Nat} {b : Nat} {room share : Int} {T K : List Tg} {ns : List Int} {t : Tg} {hs : List Int} {e : Ending} (h : ROffPost w lr b room share T K ns t hs e w') (hD : Rd w lr b room share T K ns) :
    ∃ (a : Option Addr) (c : Nat) (lr' : Nat → Nat), e = .returned (.tuple #[.bool (offB room share T K ns t hs), .slice a (offG room share T K ns t hs).length c]) ∧ IsK w' a c (keyT (offG room share T K ns t hs)) ∧ (∀ q, (Value.slice a (offG room share T K ns t hs).length c).ownBlock = some q → lr' q = 0 ∧ w.heap.size ≤ q) ∧ Rd w' lr' b room share (offT room share T K ns t hs) (offK room share T K ns t hs) ns ∧ Lab w lr lr' w' := by
  unfold offG offT offK
  rcases h with ⟨h, rfl, hc⟩ | ⟨h, a, c, lr', rfl, ho, hf, hd, hl⟩
  · rw [h]
    exact ⟨none, 0, lr, rfl, isK_nil _, (fun q hq => by cases hq), hD.still hc, Lab.still hc⟩
  · rw [h]
    exact ⟨a, c, lr', rfl, isK_of ho, fun q hq => ⟨hf q hq, (own_below ho hq).1⟩, hd, hl⟩
theorem del_len (T K : List Tg) (x : Int) : (delX T x ++ delX K x).length ≤ (T ++ K).length := by
  rw [List.length_append, List.length_append]
  have h1 : (delX T x).length ≤ T.length := by unfold delX; exact List.eraseP_sublist.length_le
  have h2 : (delX K x).length ≤ K.length := by unfold delX; exact List.eraseP_sublist.length_le
  omega
theorem drop_nf (w : World) (lab : Nat → Nat) (d N : Nat) (room share : Int) (T K : List Tg) (ns : List Int) (x : Int) (h : Dr w lab d room share N T K ns) (hx : (Lit.int .i64 x).wf = true) (hN : N ≤ 900) :
    Calls Try.prog 17 #[.pointer (some ⟨d, 0, none⟩), .int .i64 x] w fun e w' => e = .returned (.bool (getX (T ++ K) x).isSome) ∧ ∃ lab', Dr w' lab' d room share (N + 3) (delX T x) (delX K x) ns ∧ Lab w lab lab' w' := by
  cases e2 : getX (T ++ K) x with
  | some t => exact drop_some w lab d N room share T K ns x t h hx e2 hN
  | none =>
    refine (drop_none w lab d N room share T K ns x h hx e2).mono ?_
    rintro e w' ⟨rfl, hc⟩
    rw [getX_append] at e2
    have hT : getX T x = none := by cases e3 : getX T x with | none => rfl | some u => rw [e3] at e2; cases e2
    have hK : getX K x = none := by rw [hT] at e2; exact e2
    refine ⟨rfl, lab, ?_, Lab.still hc⟩
    rw [delX_none hT, delX_none hK]
    exact (h.still hc).mono (by omega)
/-- Both doors behind k acts. -/
structure PlI (w0 : World) (lab lr : Nat → Nat) (d b : Nat) (room share : Int) (N : Nat) (T K : List Tg) (ns : List Int) (k : Nat) (wr : World) : Prop where
  dr : Dr wr lab d room share N T K ns
  rd : Rd wr lr b room share T K ns
  ap : ∀ i, lab i = 0 ∨ lr i = 0
  g : Chg (fun _ => False) w0 wr
  z : ∀ i, i < w0.heap.size → lab i = 0 ∧ lr i = 0
  n : N + 3 * (T ++ K).length ≤ 6 * k
  s : ns.length ≤ k
  l : (T ++ K).length ≤ k
section
variable {w0 wr w1 w2 : World} {lab lr lab' lr' : Nat → Nat} {d b N k N' : Nat} {room share : Int} {T K T' K' : List Tg} {ns ns' : List Int}
theorem PlI.still (h : PlI w0 lab lr d b room share N T K ns k wr) (c : Chg (fun _ => False) wr w1) : PlI w0 lab lr d b room share N T K ns k w1 := ⟨h.dr.still c, h.rd.still c, h.ap, h.g.trans c fun _ _ h => h, h.z, h.n, h.s, h.l⟩
theorem PlI.up (h : PlI w0 lab lr d b room share N T K ns k wr) : PlI w0 lab lr d b room share N T K ns (k + 1) wr := ⟨h.dr, h.rd, h.ap, h.g, h.z, by have := h.n; omega, by have := h.s; omega, by have := h.l; omega⟩
/-- The door has turned, the reference's hasn't yet. -/
structure PlH (w0 : World) (lab lr lab' : Nat → Nat) (d b : Nat) (room share : Int) (N' : Nat) (T K T' K' : List Tg) (ns ns' : List Int) (w1 : World) : Prop where
  dr : Dr w1 lab' d room share N' T' K' ns'
  rd : Rd w1 lr b room share T K ns
  ap : ∀ i, lab' i = 0 ∨ lr i = 0
  g : Chg (fun _ => False) w0 w1
  z : ∀ i, i < w0.heap.size → lab' i = 0 ∧ lr i = 0
theorem PlI.half (h : PlI w0 lab lr d b room share N T K ns k wr) (hd : Dr w1 lab' d room share N' T' K' ns') (hl : Lab wr lab lab' w1) : PlH w0 lab lr lab' d b room share N' T K T' K' ns ns' w1 := by
  refine ⟨hd, h.rd.chg hl.2 fun i _ hi => (h.ap i).resolve_left (by omega), fun i => ?_, h.g.trans hl.2 fun i hi e => by have := (h.z i hi).1; omega, fun i hi => ⟨by rw [hl.1 i (Nat.lt_of_lt_of_le hi h.g.size)]; exact (h.z i hi).1, (h.z i hi).2⟩⟩
  by_cases e : lr i = 0
  · exact .inr e
  · have hi : i < wr.heap.size := by
      rcases Nat.lt_or_ge i wr.heap.size with h1 | h1
      · exact h1
      · exact absurd (h.rd.low h1) e
    exact .inl (by rw [hl.1 i hi]; exact (h.ap i).resolve_right e)
theorem PlH.still (h : PlH w0 lab lr lab' d b room share N' T K T' K' ns ns' w1) (c : Chg (fun _ => False) w1 w2) : PlH w0 lab lr lab' d b room share N' T K T' K' ns ns' w2 := ⟨h.dr.still c, h.rd.still c, h.ap, h.g.trans c fun _ _ h => h, h.z⟩
theorem PlH.whole (h : PlH w0 lab lr lab' d b room share N' T K T' K' ns ns' w1) (hd : Rd w2 lr' b room share T' K' ns') (hl : Lab w1 lr lr' w2) {k' : Nat} (hn : N' + 3 * (T' ++ K').length ≤ 6 * k') (hs : ns'.length ≤ k') (hk : (T' ++ K').length ≤ k') : PlI w0 lab' lr' d b room share N' T' K' ns' k' w2 := by
  refine ⟨h.dr.chg hl.2 fun i _ hi => .inl ((h.ap i).resolve_right (by omega)), hd, fun i => ?_, h.g.trans hl.2 fun i hi e => by have := (h.z i hi).2; omega, fun i hi => ⟨(h.z i hi).1, by rw [hl.1 i (Nat.lt_of_lt_of_le hi h.g.size)]; exact (h.z i hi).2⟩, hn, hs, hk⟩
  by_cases e : lab' i = 0
  · exact .inl e
  · have hi : i < w1.heap.size := by
      rcases Nat.lt_or_ge i w1.heap.size with h1 | h1
      · exact h1
      · exact absurd (h.dr.low h1) e
    exact .inr (by rw [hl.1 i hi]; exact (h.ap i).resolve_left e)
end
end Go.Proofs.Ytdoepjokaekckaa
