/- Small lemmas of this project's own, used by all walks of the seat. -/
import Derived.Test.YtdhekcfkngkebaaRows
import Derived.WalkKit
import Derived.WalkSpells
import Derived.WalkLawsBesides
import Derived.Below
import Derived.Lib.Hide
import Derived.Outline
import Derived.Deep.QuietTactic
import Derived.BigQuiet
namespace Go.Proofs.Ytdhekcfkngkebaa
open Go.RowKit

theorem quiet_same {P : Program} {f : FuncId} {args : Array Value} {w : World} {n : Nat} {v : Value}
    (h : Calls P f args (w.drewN n) fun e w' => e = .returned v ∧ w.drewN n = w') : Calls P f args (w.drewN n) fun e w'' => e = .returned v ∧ ∃ m, w'' = w.drewN m :=
  h.mono fun _ _ ⟨he, hm⟩ => ⟨he, n, hm.symm⟩
theorem quiet_add {P : Program} {f : FuncId} {args : Array Value} {w : World} {a n : Nat} {v : Value}
    (h : Calls P f args (w.drewN (a + n)) fun e w' => e = .returned v ∧ w.drewN (a + n) = w') :
    Calls P f args (w.drewN (a + n)) fun e w'' => e = .returned v ∧ ∃ m, w'' = w.drewN (a + m) :=
  h.mono fun _ _ ⟨he, hm⟩ => ⟨he, n, hm.symm⟩
theorem below_drewN {B : Nat} {a w : World} (h : Below B a w) (n : Nat) : Below B a (w.drewN n) := ⟨h.os, h.tape, h.output, h.size, h.block⟩
theorem bcell {W w1 : World} (hb : Below W.heap.size W w1) : (∀ b o, b < W.heap.size → w1.cell? ⟨b, o, none⟩ = W.cell? ⟨b, o, none⟩) ∧ (∀ b o, b < W.heap.size → w1.frozen? ⟨b, o, none⟩ = W.frozen? ⟨b, o, none⟩) :=
  ⟨fun b o h => hb.cell (p := ⟨b, o, none⟩) h, fun b o h => hb.frozen (p := ⟨b, o, none⟩) h⟩
theorem ret_int {k : IntKind} {a b : Int} (h : a = b) : Ending.returned (.int k a) = .returned (.int k b) := by rw [h]
theorem ret_bool {a b : Bool} (h : a = b) : Ending.returned (.bool a) = .returned (.bool b) := by rw [h]

/-- What a region that draws its order may lean on while its calls make memory: below block B all is as in w0. -/
theorem held_first {B : Nat} {w0 : World} : Below B w0 w0.drew ∧ ∀ b o, b < B → w0.drew.cell? ⟨b, o, none⟩ = w0.cell? ⟨b, o, none⟩ :=
  ⟨(Below.refl _ _).drew, fun _ _ _ => rfl⟩
theorem held_refl {B : Nat} {w0 : World} : Below B w0 w0 ∧ ∀ b o, b < B → w0.cell? ⟨b, o, none⟩ = w0.cell? ⟨b, o, none⟩ :=
  ⟨Below.refl _ _, fun _ _ _ => rfl⟩
theorem held_drewN {B : Nat} {w0 : World} (n : Nat) : Below B w0 (w0.drewN n) ∧ ∀ b o, b < B → (w0.drewN n).cell? ⟨b, o, none⟩ = w0.cell? ⟨b, o, none⟩ :=
  ⟨below_drewN (Below.refl _ _) n, fun _ _ _ => rfl⟩
theorem held_step {B : Nat} {w0 W w2 : World} (h : Below B w0 W ∧ ∀ b o, b < B → W.cell? ⟨b, o, none⟩ = w0.cell? ⟨b, o, none⟩) (h2 : Below W.heap.size W w2) (hB : B ≤ w0.heap.size) :
    Below B w0 w2 ∧ ∀ b o, b < B → w2.cell? ⟨b, o, none⟩ = w0.cell? ⟨b, o, none⟩ := by
  have g := h.1.trans (h2.mono (Nat.le_trans hB h.1.size))
  exact ⟨g, fun b o hb => g.cell (p := ⟨b, o, none⟩) hb⟩
end Go.Proofs.Ytdhekcfkngkebaa
