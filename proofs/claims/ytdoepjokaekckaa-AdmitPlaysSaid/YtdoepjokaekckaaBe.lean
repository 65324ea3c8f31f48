/- The door in memory: its struct, its book, its list, its sketch, its map; each block bears its owner's number. -/
import Derived.Test.YtdoepjokaekckaaBp
import Derived.Test.YtdoepjokaekckaaLx
import Derived.Test.YtdoepjokaekckaaSn
namespace Go.Proofs.Ytdoepjokaekckaa
set_option linter.unusedVariables false
open Go.RowKit

/-- The sketch's table behind these names. -/
def tabN (ns : List Int) : Nat → Nat → Int := ns.foldl (fun T k => Sk.bump T 1024 k 4) fun _ _ => 0
theorem tabN_snoc (ns : List Int) (k : Int) : tabN (ns ++ [k]) = Sk.bump (tabN ns) 1024 k 4 := by simp [tabN]
theorem bump_bd {T : Nat → Nat → Int} {M : Int} (h : ∀ i j, 0 ≤ T i j ∧ T i j ≤ M) (k : Int) (i j : Nat) : 0 ≤ Sk.bump T 1024 k 4 i j ∧ Sk.bump T 1024 k 4 i j ≤ M + 1 := by
  have := h i j
  unfold Sk.bump
  split <;> omega
theorem tabN_bd (ns : List Int) (i j : Nat) : 0 ≤ tabN ns i j ∧ tabN ns i j ≤ ns.length := by
  have : ∀ (l : List Int) (T : Nat → Nat → Int) (M : Int), (∀ i j, 0 ≤ T i j ∧ T i j ≤ M) → ∀ i j, 0 ≤ l.foldl (fun T k => Sk.bump T 1024 k 4) T i j ∧ l.foldl (fun T k => Sk.bump T 1024 k 4) T i j ≤ M + l.length := by
    intro l
    induction l with
    | nil => intro T M h i j; simpa using h i j
    | cons k l ih =>
      intro T M h i j
      have := ih (Sk.bump T 1024 k 4) (M + 1) (fun i j => bump_bd h k i j) i j
      simp only [List.foldl_cons, List.length_cons]
      omega
  have h := this ns (fun _ _ => 0) 0 (fun _ _ => by omega) i j
  unfold tabN
  omega
def So (w : World) (O : Nat → Prop) (b : Nat) (ns : List Int) : Prop := ∃ g cap R, Sk.Sk w b g cap 4 1024 R 16384 ns.length (tabN ns) ∧ O b ∧ O g ∧ (∀ i, i < 4 → O (R i))
theorem So.chg {w w' : World} {O S : Nat → Prop} {b : Nat} {ns : List Int} (h : So w O b ns) (k : Chg S w w') (hS : ∀ i, O i → ¬ S i) : So w' O b ns := by
  obtain ⟨g, cap, R, h1, h2, h3, h4⟩ := h
  exact ⟨g, cap, R, h1.chg k (hS b h2) (hS g h3) fun i hi => hS _ (h4 i hi), h2, h3, h4⟩
def tell (ns : List Int) (nm : Int) : Int := Sk.leastF (tabN ns) 1024 nm 4
theorem count_so (w : World) (O : Nat → Prop) (b : Nat) (ns : List Int) (nm : Int) (h : So w O b ns) (hk : 0 ≤ nm ∧ nm ≤ 18446744073709551615) (hl : ns.length ≤ 10000) :
    Calls Try.prog 30 #[.pointer (some ⟨b, 0, none⟩), .int .u64 nm] w (Quiet (.int .i64 (tell ns nm)) w) := by
  obtain ⟨g, cap, R, h1, _⟩ := h
  exact Sk.count_any b g cap 4 1024 R 16384 ns.length (tabN ns) nm w h1 hk fun i j => by have := tabN_bd ns i j; omega
theorem add_so (w : World) (O : Nat → Prop) (b : Nat) (ns : List Int) (nm : Int) (h : So w O b ns) (hk : 0 ≤ nm ∧ nm ≤ 18446744073709551615) (hl : ns.length ≤ 10000) :
    Calls Try.prog 37 #[.pointer (some ⟨b, 0, none⟩), .int .u64 nm] w fun e w' => e = .returned (.tuple #[]) ∧ So w' O b (ns ++ [nm]) ∧ Chg O w w' := by
  obtain ⟨g, cap, R, h1, h2, h3, h4⟩ := h
  refine (Sk.add_rows b g cap 4 1024 R 16384 ns.length (tabN ns) nm w h1 hk (fun i j => by have := tabN_bd ns i j; omega) (by omega)).mono ?_
  rintro e w' ⟨rfl, k1, k2⟩
  rw [if_neg (by omega)] at k1
  refine ⟨rfl, ⟨g, cap, R, ?_, h2, h3, h4⟩, k2.mono fun i _ hi => ?_⟩
  · rw [tabN_snoc]
    have e : ((ns ++ [nm]).length : Int) = ns.length + 1 := by simp
    rw [e]; exact k1
  · rcases hi with rfl | ⟨j, hj, rfl⟩
    · exact h2
    · exact h4 j hj

/-- The door's parts, each told by itself. -/
structure DrR (w : World) (lab : Nat → Nat) (d bb lb sb mb : Nat) (room share : Int) (N : Nat) (al : Int) (F : List UInt8 → Int) (T K : List Pt) (ns : List Int) (M : Int → Option Tg) : Prop where
  c0 : w.cell? ⟨d, 0, none⟩ = some (.int .i64 room)
  c1 : w.cell? ⟨d, 1, none⟩ = some (.int .i64 share)
  c2 : w.cell? ⟨d, 2, none⟩ = some (.pointer (some ⟨bb, 0, none⟩))
  c3 : w.cell? ⟨d, 3, none⟩ = some (.pointer (some ⟨lb, 0, none⟩))
  c4 : w.cell? ⟨d, 4, none⟩ = some (.pointer (some ⟨sb, 0, none⟩))
  c5 : w.cell? ⟨d, 5, none⟩ = some (.map (some mb))
  ld : lab d = 1
  bk : ∃ v, Bk w bb room share al v N F ∧ ∀ k, ownB bb v k → lab k = 2
  ls : Ls w (fun k => lab k = 3) lb (room - room / 5) N T K
  sk : So w (fun k => lab k = 4) sb ns
  mp : TgM w mb N M
  lm : lab mb = 5
  low : ∀ k, lab k ≠ 0 → k < w.heap.size
def relab (lab : Nat → Nat) (w w' : World) (i k : Nat) : Nat := if w.heap.size ≤ k ∧ k < w'.heap.size then i else lab k
section
variable {w w' : World} {lab : Nat → Nat} {d bb lb sb mb N : Nat} {room share al : Int} {F : List UInt8 → Int} {T K : List Pt} {ns : List Int} {M : Int → Option Tg} {S : Nat → Prop}
theorem relab_old {i k : Nat} (h : k < w.heap.size) : relab lab w w' i k = lab k := by unfold relab; rw [if_neg (by omega)]
theorem relab_low {i : Nat} (h : ∀ k, lab k ≠ 0 → k < w.heap.size) (hs : w.heap.size ≤ w'.heap.size) : ∀ k, relab lab w w' i k ≠ 0 → k < w'.heap.size := by
  intro k hk
  unfold relab at hk
  split at hk
  · omega
  · exact Nat.lt_of_lt_of_le (h k hk) hs
theorem DrR.chg (h : DrR w lab d bb lb sb mb room share N al F T K ns M) (k : Chg S w w') (hS : ∀ i, i < w.heap.size → S i → lab i = 0 ∨ 5 < lab i) : DrR w' lab d bb lb sb mb room share N al F T K ns M := by
  have ld := cell_lt h.c0
  have k' : Chg (fun i => lab i = 0 ∨ 5 < lab i) w w' := k.mono hS
  have hd : ¬ (lab d = 0 ∨ 5 < lab d) := by rw [h.ld]; omega
  obtain ⟨v, hb, hv⟩ := h.bk
  exact ⟨(k'.cell ld hd _).trans h.c0, (k'.cell ld hd _).trans h.c1, (k'.cell ld hd _).trans h.c2, (k'.cell ld hd _).trans h.c3, (k'.cell ld hd _).trans h.c4, (k'.cell ld hd _).trans h.c5, h.ld, ⟨v, hb.chg k' fun i hi => by rw [hv i hi]; omega, hv⟩, h.ls.chg k' fun i hi => by have hi : lab i = 3 := hi; rw [hi]; omega, h.sk.chg k' fun i hi => by have hi : lab i = 4 := hi; rw [hi]; omega, h.mp.chg k' (by rw [h.lm]; omega), h.lm, fun i hi => Nat.lt_of_lt_of_le (h.low i hi) k.size⟩
theorem DrR.still (h : DrR w lab d bb lb sb mb room share N al F T K ns M) (k : Chg (fun _ => False) w w') : DrR w' lab d bb lb sb mb room share N al F T K ns M := h.chg k fun _ _ h => h.elim
theorem DrR.mono (h : DrR w lab d bb lb sb mb room share N al F T K ns M) {N' : Nat} (hN : N ≤ N') : DrR w lab d bb lb sb mb room share N' al F T K ns M := by
  obtain ⟨v, hb, hv⟩ := h.bk
  exact ⟨h.c0, h.c1, h.c2, h.c3, h.c4, h.c5, h.ld, ⟨v, hb.mono hN, hv⟩, h.ls.mono hN, h.sk, h.mp.mono hN, h.lm, h.low⟩
/-- The book has turned. -/
theorem DrR.book {al2 : Int} {F2 : List UInt8 → Int} {v : Value} (h : DrR w lab d bb lb sb mb room share N al F T K ns M) (hv : ∀ k, ownB bb v k → lab k = 2) (p : BkPost w bb room share al2 v (N + 1) F2 w') : DrR w' (relab lab w w' 2) d bb lb sb mb room share (N + 1) al2 F2 T K ns M ∧ Chg (fun k => lab k = 2) w w' := by
  obtain ⟨m, p1, p2, p3⟩ := p
  have k' : Chg (fun k => lab k = 2) w w' := p3.mono fun i _ hi => hv i hi
  have ld := cell_lt h.c0
  have hd : ¬ lab d = 2 := by rw [h.ld]; omega
  have hs := k'.size
  have ml := p1.lt m (.inr rfl)
  refine ⟨⟨(k'.cell ld hd _).trans h.c0, (k'.cell ld hd _).trans h.c1, (k'.cell ld hd _).trans h.c2, (k'.cell ld hd _).trans h.c3, (k'.cell ld hd _).trans h.c4, (k'.cell ld hd _).trans h.c5, by rw [relab_old ld]; exact h.ld, ⟨_, p1, fun k hk => ?_⟩, ?_, ?_, (h.mp.chg k' (by rw [h.lm]; omega)).mono (by omega), by rw [relab_old h.mp.lt]; exact h.lm, relab_low h.low hs⟩, k'⟩
  · rcases hk with rfl | hk
    · have := hv k (.inl rfl)
      rw [relab_old (h.low k (by omega))]; exact this
    · injection hk with hk
      injection hk with hk
      subst hk
      rcases p2 with e | e
      · have := hv m (.inr e)
        rw [relab_old (h.low m (by omega))]; exact this
      · unfold relab; rw [if_pos ⟨e, ml⟩]
  · have h1 := (h.ls.chg k' fun i hi => by have hi : lab i = 3 := hi; rw [hi]; omega).mono (N' := N + 1) (by omega)
    refine h1.wide (fun k hk => ?_) fun k hk => ?_
    · have hk : lab k = 3 := hk
      show relab lab w w' 2 k = 3
      rw [relab_old (h.low k (by omega))]; exact hk
    · exact relab_low h.low hs k (by rw [hk]; omega)
  · obtain ⟨g, cap, R, s1, s2, s3, s4⟩ := h.sk.chg k' fun i hi => by have hi : lab i = 4 := hi; rw [hi]; omega
    have go : ∀ k, lab k = 4 → relab lab w w' 2 k = 4 := fun k hk => by rw [relab_old (h.low k (by omega))]; exact hk
    exact ⟨g, cap, R, s1, go _ s2, go _ s3, fun i hi => go _ (s4 i hi)⟩
/-- The list has turned. -/
theorem DrR.list {T2 K2 : List Pt} (h : DrR w lab d bb lb sb mb room share N al F T K ns M) (p : LsPost w (fun k => lab k = 3) lb (room - room / 5) (N + 1) T2 K2 w') : DrR w' (relab lab w w' 3) d bb lb sb mb room share (N + 1) al F T2 K2 ns M ∧ Chg (fun k => lab k = 3) w w' := by
  obtain ⟨p1, k'⟩ := p
  have ld := cell_lt h.c0
  have hd : ¬ lab d = 3 := by rw [h.ld]; omega
  have hs := k'.size
  obtain ⟨v, hb, hv⟩ := h.bk
  refine ⟨⟨(k'.cell ld hd _).trans h.c0, (k'.cell ld hd _).trans h.c1, (k'.cell ld hd _).trans h.c2, (k'.cell ld hd _).trans h.c3, (k'.cell ld hd _).trans h.c4, (k'.cell ld hd _).trans h.c5, by rw [relab_old ld]; exact h.ld, ⟨v, (hb.chg k' fun i hi => by rw [hv i hi]; omega).mono (by omega), fun k hk => ?_⟩, ?_, ?_, (h.mp.chg k' (by rw [h.lm]; omega)).mono (by omega), by rw [relab_old h.mp.lt]; exact h.lm, relab_low h.low hs⟩, k'⟩
  · have := hv k hk
    rw [relab_old (h.low k (by omega))]; exact this
  · refine p1.wide (fun k hk => ?_) fun k hk => relab_low h.low hs k (by rw [hk]; omega)
    show relab lab w w' 3 k = 3
    rcases hk with hk | hk
    · have hk : lab k = 3 := hk
      rw [relab_old (h.low k (by omega))]; exact hk
    · unfold relab; rw [if_pos hk]
  · obtain ⟨g, cap, R, s1, s2, s3, s4⟩ := h.sk.chg k' fun i hi => by have hi : lab i = 4 := hi; rw [hi]; omega
    have go : ∀ k, lab k = 4 → relab lab w w' 3 k = 4 := fun k hk => by rw [relab_old (h.low k (by omega))]; exact hk
    exact ⟨g, cap, R, s1, go _ s2, go _ s3, fun i hi => go _ (s4 i hi)⟩
/-- The sketch has turned. -/
theorem DrR.count {ns2 : List Int} (h : DrR w lab d bb lb sb mb room share N al F T K ns M) (p : So w' (fun k => lab k = 4) sb ns2) (k' : Chg (fun k => lab k = 4) w w') : DrR w' lab d bb lb sb mb room share N al F T K ns2 M := by
  have ld := cell_lt h.c0
  have hd : ¬ lab d = 4 := by rw [h.ld]; omega
  obtain ⟨v, hb, hv⟩ := h.bk
  exact ⟨(k'.cell ld hd _).trans h.c0, (k'.cell ld hd _).trans h.c1, (k'.cell ld hd _).trans h.c2, (k'.cell ld hd _).trans h.c3, (k'.cell ld hd _).trans h.c4, (k'.cell ld hd _).trans h.c5, h.ld, ⟨v, hb.chg k' fun i hi => by rw [hv i hi]; omega, hv⟩, h.ls.chg k' fun i hi => by have hi : lab i = 3 := hi; rw [hi]; omega, p, h.mp.chg k' (by rw [h.lm]; omega), h.lm, fun i hi => Nat.lt_of_lt_of_le (h.low i hi) k'.size⟩
/-- The map has turned. -/
theorem DrR.map {M2 : Int → Option Tg} (h : DrR w lab d bb lb sb mb room share N al F T K ns M) (p : TgM w' mb (N + 1) M2) (k : Chg (fun k => k = mb) w w') : DrR w' lab d bb lb sb mb room share (N + 1) al F T K ns M2 := by
  have k' : Chg (fun k => lab k = 5) w w' := k.mono fun i _ hi => by rw [hi]; exact h.lm
  have ld := cell_lt h.c0
  have hd : ¬ lab d = 5 := by rw [h.ld]; omega
  obtain ⟨v, hb, hv⟩ := h.bk
  exact ⟨(k'.cell ld hd _).trans h.c0, (k'.cell ld hd _).trans h.c1, (k'.cell ld hd _).trans h.c2, (k'.cell ld hd _).trans h.c3, (k'.cell ld hd _).trans h.c4, (k'.cell ld hd _).trans h.c5, h.ld, ⟨v, (hb.chg k' fun i hi => by rw [hv i hi]; omega).mono (by omega), hv⟩, (h.ls.chg k' fun i hi => by have hi : lab i = 3 := hi; rw [hi]; omega).mono (by omega), h.sk.chg k' fun i hi => by have hi : lab i = 4 := hi; rw [hi]; omega, p, h.lm, fun i hi => Nat.lt_of_lt_of_le (h.low i hi) k'.size⟩
end
end Go.Proofs.Ytdoepjokaekckaa
