/- Linked rows of things in memory. -/
import Derived.Test.YtdoepjokaekckaaOwn
namespace Go.Proofs.Ytdoepjokaekckaa
set_option linter.unusedVariables false
open Go.RowKit

section
variable {w : World} {p q : Addr} {v u : Value}
theorem cell_other (h : p ≠ q) : (w.setCell p v).cell? q = w.cell? q := by apply World.cell?_setCell_other; exact h
theorem cell_same (h : w.cell? p = some u) : (w.setCell p v).cell? p = some v := by apply World.cell?_setCell_same; exact h
end
/-- A thing: its block, its key, its bytes. -/
abbrev Th := Nat × Int × Int
def ptr : Option Nat → Value
  | none => .pointer none
  | some p => .pointer (some ⟨p, 0, none⟩)
def headP (l : List Th) (d : Option Nat) : Option Nat := match l with | [] => d | t :: _ => some t.1
def lastP (d : Option Nat) : List Th → Option Nat
  | [] => d
  | t :: r => lastP (some t.1) r
def sumT : List Th → Int
  | [] => 0
  | t :: r => t.2.2 + sumT r
/-- One thing's block. -/
structure Nd (w : World) (kept : Bool) (t : Th) (behind ahead : Option Nat) : Prop where
  c0 : w.cell? ⟨t.1, 0, none⟩ = some (.int .i64 t.2.1)
  c1 : w.cell? ⟨t.1, 1, none⟩ = some (.int .i64 t.2.2)
  c2 : w.cell? ⟨t.1, 2, none⟩ = some (.bool kept)
  c3 : w.cell? ⟨t.1, 3, none⟩ = some (ptr ahead)
  c4 : w.cell? ⟨t.1, 4, none⟩ = some (ptr behind)
  fz : ∀ o, w.frozen? ⟨t.1, o, none⟩ = false
/-- Things on end, from the back to the front: behind the first one 'pre', ahead of the last one 'nxt'. -/
def Lk (w : World) (kept : Bool) (pre nxt : Option Nat) : List Th → Prop
  | [] => True
  | t :: r => Nd w kept t pre (headP r nxt) ∧ Lk w kept (some t.1) nxt r
theorem headP_append (a b : List Th) (d : Option Nat) : headP (a ++ b) d = headP a (headP b d) := by cases a <;> rfl
theorem lastP_append (d : Option Nat) (a b : List Th) : lastP d (a ++ b) = lastP (lastP d a) b := by
  induction a generalizing d with
  | nil => rfl
  | cons t r ih => exact ih (some t.1)
theorem sumT_append (a b : List Th) : sumT (a ++ b) = sumT a + sumT b := by
  induction a with
  | nil => simp [sumT]
  | cons t r ih => simp [sumT, ih]; omega
theorem Lk.append {w : World} {kept : Bool} {pre nxt : Option Nat} {a b : List Th} : Lk w kept pre nxt (a ++ b) ↔ Lk w kept pre (headP b nxt) a ∧ Lk w kept (lastP pre a) nxt b := by
  induction a generalizing pre with
  | nil => simp [Lk, lastP]
  | cons t r ih =>
    show (Nd w kept t pre (headP (r ++ b) nxt) ∧ Lk w kept (some t.1) nxt (r ++ b)) ↔ (Nd w kept t pre (headP r (headP b nxt)) ∧ Lk w kept (some t.1) (headP b nxt) r) ∧ Lk w kept (lastP (some t.1) r) nxt b
    rw [headP_append, ih]
    constructor
    · rintro ⟨h1, h2, h3⟩; exact ⟨⟨h1, h2⟩, h3⟩
    · rintro ⟨⟨h1, h2⟩, h3⟩; exact ⟨h1, h2, h3⟩
theorem Nd.chg {S : Nat → Prop} {w w' : World} {kept : Bool} {t : Th} {p n : Option Nat} (h : Nd w kept t p n) (k : Chg S w w') (hn : ¬ S t.1) : Nd w' kept t p n := by
  have l := cell_lt h.c0
  exact ⟨(k.cell l hn 0).trans h.c0, (k.cell l hn 1).trans h.c1, (k.cell l hn 2).trans h.c2, (k.cell l hn 3).trans h.c3, (k.cell l hn 4).trans h.c4, fun o => (k.frozen l hn o).trans (h.fz o)⟩
theorem Lk.chg {S : Nat → Prop} {w w' : World} {kept : Bool} {nxt : Option Nat} (k : Chg S w w') : ∀ {l : List Th} {pre : Option Nat}, Lk w kept pre nxt l → (∀ t ∈ l, ¬ S t.1) → Lk w' kept pre nxt l
  | [], _, _, _ => trivial
  | t :: r, _, h, hn => ⟨h.1.chg k (hn t (by simp)), Lk.chg k h.2 (fun u hu => hn u (by simp [hu]))⟩
/-- Of block b only the three cells from 'off' on have turned. -/
def Keep (b off : Nat) (w w' : World) : Prop := ∀ o, (o < off ∨ off + 3 ≤ o) → w'.cell? ⟨b, o, none⟩ = w.cell? ⟨b, o, none⟩
theorem Keep.refl (b off : Nat) (w : World) : Keep b off w w := fun _ _ => rfl
theorem Keep.trans {b off : Nat} {w w' w'' : World} (h : Keep b off w w') (k : Keep b off w' w'') : Keep b off w w'' := fun o ho => (k o ho).trans (h o ho)
theorem Keep.set {b off : Nat} {w w' : World} (h : Keep b off w w') {p : Addr} (hp : p.block ≠ b ∨ (off ≤ p.off ∧ p.off < off + 3)) (v : Value) : Keep b off w (w'.setCell p v) := fun o ho => by
  rw [cell_other (by
    rintro rfl
    rcases hp with hp | hp
    · exact hp rfl
    · simp only at hp; omega)]
  exact h o ho
theorem Keep.chg {S : Nat → Prop} {b off : Nat} {w w' : World} (k : Chg S w w') (hb : ¬ S b) (hl : b < w.heap.size) : Keep b off w w' := fun o _ => k.cell hl hb o
end Go.Proofs.Ytdoepjokaekckaa
