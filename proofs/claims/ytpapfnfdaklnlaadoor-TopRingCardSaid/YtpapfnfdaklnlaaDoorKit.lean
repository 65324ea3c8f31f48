/- Small lemmas of this project's own, used by all walks of the seat. -/
import Derived.Test.YtpapfnfdaklnlaaDoorRows
import Derived.WalkKit
import Derived.WalkSpells
import Derived.WalkLawsBesides
import Derived.Below
import Derived.Lib.Hide
import Derived.Outline
import Derived.Deep.QuietTactic
import Derived.BigQuiet
import Derived.Laws.AppendOwn
import Derived.RegionTactic
import Derived.Deep.RegionWith
import Derived.Deep.RegionHeld3
import Derived.LoopTactic
import Derived.OwnWalk
import Derived.IntWalk
import Derived.OpenShut
import Derived.Lib.QuietBelow
import Derived.StillTailTactics
namespace Go.Proofs.YtpapfnfdaklnlaaDoor
set_option linter.unusedVariables false
open Go.RowKit

theorem quiet_same {P : Program} {f : FuncId} {args : Array Value} {w : World} {n : Nat} {v : Value}
    (h : Calls P f args (w.drewN n) fun e w' => e = .returned v ∧ w.drewN n = w') : Calls P f args (w.drewN n) fun e w'' => e = .returned v ∧ ∃ m, w'' = w.drewN m :=
  h.mono fun _ _ ⟨he, hm⟩ => ⟨he, n, hm.symm⟩
theorem quiet_add {P : Program} {f : FuncId} {args : Array Value} {w : World} {a n : Nat} {v : Value}
    (h : Calls P f args (w.drewN (a + n)) fun e w' => e = .returned v ∧ w.drewN (a + n) = w') :
    Calls P f args (w.drewN (a + n)) fun e w'' => e = .returned v ∧ ∃ m, w'' = w.drewN (a + m) :=
  h.mono fun _ _ ⟨he, hm⟩ => ⟨he, n, hm.symm⟩
theorem below_drewN {B : Nat} {a w : World} (h : Below B a w) (n : Nat) : Below B a (w.drewN n) := ⟨h.os, h.tape, h.output, h.size, h.block⟩
theorem bcell {W w1 : World} (hb : Below W.heap.size W w1) : (∀ b o, b < W.heap.size → w1.cell? ⟨b, o, none⟩ = W.cell? ⟨b, o, none⟩) ∧ (∀ b o, b < W.heap.size → w1.frozen? ⟨b, o, none⟩ = W.frozen? ⟨b, o, none⟩) :=
  ⟨fun b o h => hb.cell (p := ⟨b, o, none⟩) h, fun b o h => hb.frozen (p := ⟨b, o, none⟩) h⟩
/-- What may have turned of the memory that was there: the blocks of S alone. -/
structure Chg (S : Nat → Prop) (w w' : World) : Prop where
  os : w'.os = w.os
  tape : w'.tape = w.tape
  output : w'.output = w.output
  size : w.heap.size ≤ w'.heap.size
  block : ∀ k, k < w.heap.size → ¬ S k → w'.heap[k]? = w.heap[k]?
theorem Chg.refl (S : Nat → Prop) (w : World) : Chg S w w := ⟨rfl, rfl, rfl, Nat.le_refl _, fun _ _ _ => rfl⟩
theorem Chg.trans {S T : Nat → Prop} {a b c : World} (h : Chg S a b) (k : Chg T b c) (hs : ∀ i, i < a.heap.size → T i → S i) : Chg S a c :=
  ⟨k.os.trans h.os, k.tape.trans h.tape, k.output.trans h.output, Nat.le_trans h.size k.size, fun i hi hn => (k.block i (Nat.lt_of_lt_of_le hi h.size) (fun t => hn (hs i hi t))).trans (h.block i hi hn)⟩
theorem Chg.mono {S T : Nat → Prop} {a b : World} (h : Chg S a b) (hs : ∀ i, i < a.heap.size → S i → T i) : Chg T a b :=
  ⟨h.os, h.tape, h.output, h.size, fun i hi hn => h.block i hi (fun t => hn (hs i hi t))⟩
theorem Chg.drew {S : Nat → Prop} {a w : World} (h : Chg S a w) : Chg S a w.drew := ⟨h.os, h.tape, h.output, h.size, h.block⟩
theorem Chg.drewN {S : Nat → Prop} {a w : World} (h : Chg S a w) (n : Nat) : Chg S a (w.drewN n) := ⟨h.os, h.tape, h.output, h.size, h.block⟩
theorem Chg.alloc {S : Nat → Prop} {a w : World} (h : Chg S a w) (o : Obj) : Chg S a (w.alloc o) :=
  ⟨h.os, h.tape, h.output, Nat.le_trans h.size (by simp), fun i hi hn => (Below.heap_alloc w o i (Nat.lt_of_lt_of_le hi h.size)).trans (h.block i hi hn)⟩
theorem Chg.setCell {S : Nat → Prop} {a w : World} (h : Chg S a w) {p : Addr} (hp : S p.block ∨ a.heap.size ≤ p.block) (u : Value) : Chg S a (w.setCell p u) :=
  ⟨h.os, h.tape, h.output, by simpa [World.setCell] using h.size, fun i hi hn => (Below.heap_setCell w p u i (by
    rintro rfl
    rcases hp with hp | hp
    · exact hn hp
    · omega)).trans (h.block i hi hn)⟩
theorem Chg.ofBelow {S : Nat → Prop} {w w' : World} (h : Below w.heap.size w w') : Chg S w w' := ⟨h.os, h.tape, h.output, h.size, fun i hi _ => h.block i hi⟩
theorem Chg.below {w w' : World} (h : Chg (fun _ => False) w w') : Below w.heap.size w w' := ⟨h.os, h.tape, h.output, h.size, fun i hi => h.block i hi id⟩
theorem Chg.grown {S : Nat → Prop} {a w w' : World} {row : Option Nat} (h : Chg S a w) (hg : w.grownBy w' row) (hr : ∀ k, row = some k → S k ∨ a.heap.size ≤ k) : Chg S a w' :=
  ⟨hg.os.trans h.os, hg.tape.trans h.tape, hg.output.trans h.output, Nat.le_trans h.size hg.size, fun k hk hn => (hg.block k (Nat.lt_of_lt_of_le hk h.size) (fun e => by
    rcases hr k e.symm with x | x
    · exact hn x
    · omega)).trans (h.block k hk hn)⟩
theorem Chg.cell {S : Nat → Prop} {w w' : World} (h : Chg S w w') {b : Nat} (hb : b < w.heap.size) (hn : ¬ S b) (o : Nat) : w'.cell? ⟨b, o, none⟩ = w.cell? ⟨b, o, none⟩ :=
  World.cell?_of_block (h.block b hb hn)
theorem Chg.frozen {S : Nat → Prop} {w w' : World} (h : Chg S w w') {b : Nat} (hb : b < w.heap.size) (hn : ¬ S b) (o : Nat) : w'.frozen? ⟨b, o, none⟩ = w.frozen? ⟨b, o, none⟩ :=
  World.frozen?_of_block (h.block b hb hn)
theorem cell_lt {w : World} {b o : Nat} {v : Value} (h : w.cell? ⟨b, o, none⟩ = some v) : b < w.heap.size := by
  unfold World.cell? at h
  by_cases hb : b < w.heap.size
  · exact hb
  · simp [Array.getElem?_eq_none (Nat.le_of_not_lt hb)] at h
/-- A call that only reads: the world moves on by draws alone. -/
def Quiet (v : Value) (w : World) (e : Ending) (w' : World) : Prop := e = .returned v ∧ ∃ n, w' = w.drewN n
theorem quiet_q {P : Program} {f : FuncId} {args : Array Value} {w : World} {n : Nat} {v : Value}
    (h : Calls P f args (w.drewN n) (Quiet v (w.drewN n))) : Calls P f args (w.drewN n) fun e w'' => e = .returned v ∧ ∃ m, w'' = w.drewN m :=
  h.mono fun _ _ ⟨he, m, hm⟩ => ⟨he, n + m, by rw [hm, World.drewN_drewN]⟩
theorem quiet_qa {P : Program} {f : FuncId} {args : Array Value} {w : World} {a n : Nat} {v : Value}
    (h : Calls P f args (w.drewN (a + n)) (Quiet v (w.drewN (a + n)))) :
    Calls P f args (w.drewN (a + n)) fun e w'' => e = .returned v ∧ ∃ m, w'' = w.drewN (a + m) :=
  h.mono fun _ _ ⟨he, m, hm⟩ => ⟨he, n + m, by rw [hm, World.drewN_drewN, Nat.add_assoc]⟩
theorem same_flip {P : Program} {f : FuncId} {args : Array Value} {w : World} {v : Value} (h : Calls P f args w fun e w' => e = .returned v ∧ w = w') : Calls P f args w fun e w' => e = .returned v ∧ w' = w :=
  h.mono fun _ _ ⟨he, hm⟩ => ⟨he, hm.symm⟩
theorem quiet_below {P : Program} {f : FuncId} {args : Array Value} {w : World} {v : Value} (h : Calls P f args w (Quiet v w)) : Calls P f args w fun e w' => e = .returned v ∧ Below w.heap.size w w' :=
  h.mono fun _ _ ⟨he, n, hm⟩ => ⟨he, by rw [hm]; exact below_drewN (Below.refl _ _) n⟩
theorem same_below {P : Program} {f : FuncId} {args : Array Value} {w : World} {v : Value} (h : Calls P f args w fun e w' => e = .returned v ∧ w = w') : Calls P f args w fun e w' => e = .returned v ∧ Below w.heap.size w w' :=
  h.mono fun _ _ ⟨he, hm⟩ => ⟨he, by rw [← hm]; exact Below.refl _ _⟩
theorem name_region {P : Program} {c : Code} {Q : Exit → Act → World → Prop} {a : Act} {w : World} (h : ∀ W, W = w → c.wp P Q a W) : c.wp P Q a w := h w rfl
theorem name_calls {P : Program} {f : FuncId} {args : Array Value} {w : World} {R : Ending → World → Prop} (h : ∀ W, W = w → Calls P f args W R) : Calls P f args w R := h w rfl
theorem ret_int {k : IntKind} {a b : Int} (h : a = b) : Ending.returned (.int k a) = .returned (.int k b) := by rw [h]
theorem ret_bool {a b : Bool} (h : a = b) : Ending.returned (.bool a) = .returned (.bool b) := by rw [h]

/-- What a region that draws its order may lean on while its calls make memory: below block B all is as in w0. -/
theorem held_first {B : Nat} {w0 : World} : Below B w0 w0.drew ∧ ∀ b o, b < B → w0.drew.cell? ⟨b, o, none⟩ = w0.cell? ⟨b, o, none⟩ :=
  ⟨(Below.refl _ _).drew, fun _ _ _ => rfl⟩
theorem held_refl {B : Nat} {w0 : World} : Below B w0 w0 ∧ ∀ b o, b < B → w0.cell? ⟨b, o, none⟩ = w0.cell? ⟨b, o, none⟩ :=
  ⟨Below.refl _ _, fun _ _ _ => rfl⟩
theorem held_drewN {B : Nat} {w0 : World} (n : Nat) : Below B w0 (w0.drewN n) ∧ ∀ b o, b < B → (w0.drewN n).cell? ⟨b, o, none⟩ = w0.cell? ⟨b, o, none⟩ :=
  ⟨below_drewN (Below.refl _ _) n, fun _ _ _ => rfl⟩
theorem held_dn {B : Nat} {w0 W : World} (n : Nat) (h : Below B w0 W ∧ ∀ b o, b < B → W.cell? ⟨b, o, none⟩ = w0.cell? ⟨b, o, none⟩) : Below B w0 (W.drewN n) ∧ ∀ b o, b < B → (W.drewN n).cell? ⟨b, o, none⟩ = w0.cell? ⟨b, o, none⟩ :=
  ⟨below_drewN h.1 n, h.2⟩
theorem held_step {B : Nat} {w0 W w2 : World} (h : Below B w0 W ∧ ∀ b o, b < B → W.cell? ⟨b, o, none⟩ = w0.cell? ⟨b, o, none⟩) (h2 : Below W.heap.size W w2) (hB : B ≤ w0.heap.size) :
    Below B w0 w2 ∧ ∀ b o, b < B → w2.cell? ⟨b, o, none⟩ = w0.cell? ⟨b, o, none⟩ := by
  have g := h.1.trans (h2.mono (Nat.le_trans hB h.1.size))
  exact ⟨g, fun b o hb => g.cell (p := ⟨b, o, none⟩) hb⟩
end Go.Proofs.YtpapfnfdaklnlaaDoor
