/- A ring in memory. -/
import Derived.Test.YtpapfnfdaklnlaaDoorRk
import Derived.Test.YtpapfnfdaklnlaaDoorRl
namespace Go.Proofs.YtpapfnfdaklnlaaDoor
set_option linter.unusedVariables false
open Go.RowKit

theorem infoPt : (Tryd.prog.info? 63).map (fun i => (i.zero, i.size, i.bytes)) = some (some ptz, 2, 24) := by kernel_rfl
theorem infoPt_parts : ∃ i, Tryd.prog.info? 63 = some i ∧ i.zero = some ptz ∧ i.size = 2 ∧ i.bytes = 24 := by
  have h := infoPt
  cases hi : Tryd.prog.info? 63 with
  | none => rw [hi] at h; simp at h
  | some i => rw [hi] at h; simp at h; exact ⟨i, rfl, h⟩
theorem flatP_app (L N : List Pt) : flatP (L ++ N) = flatP L ++ flatP N := by simp [flatP]
/-- The ring at block b: v its names' map, pv its points' slice; K the names, L the points. -/
structure Rg (w : World) (b : Nat) (v pv : Value) (U : Nat) (K : List UInt8 → Bool) (L : List Pt) : Prop where
  c0 : w.cell? ⟨b, 0, none⟩ = some (.int .i64 8)
  c1 : w.cell? ⟨b, 1, none⟩ = some v
  c2 : w.cell? ⟨b, 2, none⟩ = some pv
  fz : ∀ o, w.frozen? ⟨b, o, none⟩ = false
  mp : KsV w v U K
  ow : w.ownsRow 0 63 2 pv L.length (flatP L)
  ap : ∀ g, pv.ownBlock = some g → g ≠ b
  asc : Asc L
  has : ∀ p ∈ L, K p.2.data.toList = true ∧ p.2.size = 2
  len : L.length ≤ 24 * U
def RB (b : Nat) (v pv : Value) (k : Nat) : Prop := k = b ∨ v = .map (some k) ∨ pv.ownBlock = some k
section
variable {w w' : World} {b U : Nat} {v pv : Value} {K : List UInt8 → Bool} {L : List Pt} {S : Nat → Prop}
theorem Rg.chg (h : Rg w b v pv U K L) (k : Chg S w w') (hn : ∀ i, RB b v pv i → ¬ S i) : Rg w' b v pv U K L := by
  have lb := cell_lt h.c0
  have hb := hn b (.inl rfl)
  exact ⟨(k.cell lb hb _).trans h.c0, (k.cell lb hb _).trans h.c1, (k.cell lb hb _).trans h.c2, fun o => (k.frozen lb hb o).trans (h.fz o), h.mp.chg k fun m hm => hn m (.inr (.inl hm)), own_chg h.ow k fun g _ _ hg => hn g (.inr (.inr hg)), h.ap, h.asc, h.has, h.len⟩
theorem Rg.still (h : Rg w b v pv U K L) (k : Chg (fun _ => False) w w') : Rg w' b v pv U K L := h.chg k fun _ _ => id
theorem Rg.below (h : Rg w b v pv U K L) (k : Below w.heap.size w w') : Rg w' b v pv U K L := h.still (Chg.ofBelow k)
theorem Rg.lt (h : Rg w b v pv U K L) : ∀ k, RB b v pv k → k < w.heap.size := by
  rintro k (rfl | hk | hk)
  · exact cell_lt h.c0
  · exact h.mp.lt hk
  · exact (own_below h.ow hk).2
theorem ring_made (w : World) : Rg (w.alloc (Obj.cells #[.int .i64 8, .map none, .slice none 0 0] 58)) w.heap.size (.map none) (.slice none 0 0) 0 (fun _ => false) [] :=
  ⟨by go_simp, by go_simp, by go_simp, fun o => by go_simp, .inl ⟨rfl, fun _ => rfl⟩, ⟨rfl, .inl ⟨rfl, rfl⟩⟩, fun g hg => (by cases hg), List.Pairwise.nil, fun p hp => (by cases hp), Nat.zero_le _⟩
end
/-- While a name's points come: k of them lie behind L. -/
structure Ar (w1 wr : World) (b : Nat) (v pv pvk : Value) (L N : List Pt) (nm : ByteArray) (k : Nat) : Prop where
  c0 : wr.cell? ⟨b, 0, none⟩ = some (.int .i64 8)
  c1 : wr.cell? ⟨b, 1, none⟩ = some v
  c2 : wr.cell? ⟨b, 2, none⟩ = some pvk
  fz : ∀ o, wr.frozen? ⟨b, o, none⟩ = false
  ow : wr.ownsRow 0 63 2 pvk (L.length + k) (flatP (L ++ N))
  ap : ∀ g, pvk.ownBlock = some g → g ≠ b
  all : ∀ p ∈ N, p.2 = nm
  len : N.length = k
  bl : ∀ g, pvk.ownBlock = some g → pv.ownBlock = some g ∨ w1.heap.size ≤ g
  ch : Chg (fun i => i = b ∨ pv.ownBlock = some i) w1 wr
theorem Rg.ar {w : World} {b U : Nat} {v pv : Value} {K : List UInt8 → Bool} {L : List Pt} (h : Rg w b v pv U K L) (nm : ByteArray) : Ar w w b v pv pv L [] nm 0 :=
  ⟨h.c0, h.c1, h.c2, h.fz, by simpa using h.ow, h.ap, fun p hp => (by cases hp), rfl, fun g hg => .inl hg, Chg.refl _ _⟩
theorem Ar.step {w1 wr wa w3 : World} {b : Nat} {v pv pvk : Value} {L N : List Pt} {nm : ByteArray} {k g cap : Nat} {x : Int} (h : Ar w1 wr b v pv pvk L N nm k) (hb : b < w1.heap.size) (ha : Chg (fun _ => False) wr wa) (hg : wa.grownBy w3 pvk.ownBlock)
    (ho : w3.ownsRow 0 63 2 (.slice (some ⟨g, 0, none⟩) (L.length + k + 1) cap) (L.length + k + 1) (flatP (L ++ N) ++ [.int .u64 x, .string nm])) (hat : pvk.ownBlock = some g ∨ g = wa.heap.size) :
    Ar w1 (w3.setCell ⟨b, 2, none⟩ (.slice (some ⟨g, 0, none⟩) (L.length + k + 1) cap)) b v pv (.slice (some ⟨g, 0, none⟩) (L.length + k + 1) cap) L (N ++ [(x, nm)]) nm (k + 1) := by
  have lb : b < wr.heap.size := Nat.lt_of_lt_of_le hb h.ch.size
  have lba : b < wa.heap.size := Nat.lt_of_lt_of_le lb ha.size
  have lb3 : b < w3.heap.size := Nat.lt_of_lt_of_le lba hg.size
  have hbp : pvk.ownBlock ≠ some b := fun e => h.ap b e rfl
  have hga : Chg (fun i => pvk.ownBlock = some i) wa w3 := grown_chg hg fun _ e => e
  have h3 : Chg (fun i => pvk.ownBlock = some i) wr w3 := Chg.trans (ha.mono fun _ _ e => e.elim) hga fun _ _ e => e
  have hgb : g ≠ b := by
    rcases hat with e | e
    · exact h.ap g e
    · omega
  have fb : w3.frozen? ⟨b, 2, none⟩ = false := (h3.frozen lb hbp 2).trans (h.fz 2)
  have k2 : w3.cell? ⟨b, 2, none⟩ = some pvk := (h3.cell lb hbp 2).trans h.c2
  refine ⟨?_, ?_, ?_, ?_, ?_, ?_, ?_, ?_, ?_, ?_⟩
  · have : w3.cell? ⟨b, 0, none⟩ = some (.int .i64 8) := (h3.cell lb hbp 0).trans h.c0
    go_simp
  · have : w3.cell? ⟨b, 1, none⟩ = some v := (h3.cell lb hbp 1).trans h.c1
    go_simp
  · go_simp
  · intro o
    have : w3.frozen? ⟨b, o, none⟩ = false := (h3.frozen lb hbp o).trans (h.fz o)
    go_simp
  · have e : flatP (L ++ (N ++ [(x, nm)])) = flatP (L ++ N) ++ [.int .u64 x, .string nm] := by rw [← List.append_assoc, flatP_app (L ++ N)]; rfl
    rw [e]
    exact own_chg ho (Chg.setCell (S := fun i => i = b) (p := ⟨b, 2, none⟩) (Chg.refl _ w3) (.inl rfl) _) fun g' _ _ hg' => by
      simp [Value.ownBlock] at hg'
      show ¬ g' = b
      omega
  · intro g' hg'
    simp [Value.ownBlock] at hg'
    omega
  · intro p hp
    rcases List.mem_append.1 hp with hp | hp
    · exact h.all p hp
    · simp at hp; rw [hp]
  · simp [h.len]
  · intro g' hg'
    simp [Value.ownBlock] at hg'
    subst hg'
    rcases hat with e | e
    · exact h.bl _ e
    · have := h.ch.size; have := ha.size; exact .inr (by omega)
  · refine Chg.setCell (Chg.trans h.ch h3 fun i hi e => ?_) (.inl (.inl rfl)) _
    rcases h.bl i e with e | e
    · exact .inr e
    · omega
/-- Behind the sort it is a ring. -/
theorem Ar.ring {w1 wr w2 : World} {b U m : Nat} {pv : Value} {L N M : List Pt} {nm : ByteArray} {k g cap : Nat} {K : List UInt8 → Bool} (h : Ar w1 wr b (.map (some m)) pv (.slice (some ⟨g, 0, none⟩) (L.length + k) cap) L N nm k) (hm : KsM w1 m (U + 1) (fun y => decide (y = nm.data.toList) || K y)) (hmp : pv.ownBlock ≠ some m) (hmb : m ≠ b)
    (hk : k ≤ 24) (hL : L.length ≤ 24 * U) (hh : ∀ p ∈ L, K p.2.data.toList = true ∧ p.2.size = 2) (hz : nm.size = 2) (hp : M.Perm (L ++ N)) (ha : Asc M) (ho : w2.ownsRow 0 63 2 (.slice (some ⟨g, 0, none⟩) (L.length + k) cap) (L.length + k) (flatP M)) (hc : Chg (fun i => i = g) wr w2) :
    Rg w2 b (.map (some m)) (.slice (some ⟨g, 0, none⟩) (L.length + k) cap) (U + 1) (fun y => decide (y = nm.data.toList) || K y) M := by
  have hgb : b ≠ g := (h.ap g rfl).symm
  have lb := cell_lt h.c0
  have hlen : M.length = L.length + k := by rw [hp.length_eq, List.length_append, h.len]
  have hmg : m ≠ g := by
    rintro rfl
    rcases h.bl _ rfl with e | e
    · exact hmp e
    · have e' : w1.heap.size ≤ m := e
      have := hm.lt; omega
  refine ⟨(hc.cell lb hgb _).trans h.c0, (hc.cell lb hgb _).trans h.c1, (hc.cell lb hgb _).trans h.c2, fun o => (hc.frozen lb hgb o).trans (h.fz o), .inr ⟨m, rfl, ?_⟩, by rw [hlen]; exact ho, h.ap, ha, ?_, by rw [hlen]; omega⟩
  · refine (hm.chg h.ch ?_).chg hc hmg
    rintro (e | e)
    · exact hmb e
    · exact hmp e
  · intro p hp'
    rcases List.mem_append.1 (hp.mem_iff.1 hp') with h1 | h1
    · exact ⟨by simp [(hh p h1).1], (hh p h1).2⟩
    · rw [h.all p h1]; exact ⟨by simp, hz⟩
end Go.Proofs.YtpapfnfdaklnlaaDoor
