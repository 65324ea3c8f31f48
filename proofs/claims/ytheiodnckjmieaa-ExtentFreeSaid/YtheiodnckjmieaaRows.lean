/-
  No cell of these rows narrows 'for every input' (looked for: loops, veiled, ifaces, maps, wideKeys, modest, calm, conditions, laid).
  DERIVED. THE GIVEN ROWS OF THIS SEAT. 7 by the template 'for every input the law returns true; each argument reads behind the call as it read before'; 0 by the template 'total and deterministic' (their statements: YtheiodnckjmieaaTotals.lean).
  GIVEN WITH THE SEED: the statements are not yours to turn. If you find one false, say at which input.
  Laid BY PROGRAM, IN A SANDBOX (cutbox-rows.mjs): the forced cells as the released guide's own fill.sh prints them over the translation 4ced267613c96f6a… (all of the seat's roots in one cut). By AI agents, Wed Nov 11 2026. No macro, syntax, notation, axiom, sorry.
-/
import Derived.Test.YtheiodnckjmieaaChecked
import GoSem.Claim
import GoSem.ClaimJoined
import GoSem.ClaimMapViews
import Derived.JoinedTies
import Derived.KernelRfl
namespace Go.Proofs.Ytheiodnckjmieaa
/- THE CELL 'sum', in the pinned program and in every row, IS THE sha256 OF THE DUMP (.gsa) THAT YtheiodnckjmieaaProg.lean LOADS. Nothing in Lean hashes anything: it is a label: what it is worth is what the hold of that sum in a sandbox is worth. -/
noncomputable def Try.pinned : Pinned := { name := "ytheiodnckjmieaa", sum := "4ced267613c96f6a12fa74181b6e56b23b1a1fcd5c4a08503ca1a3d05e7c35f7", checked := Try.checked }
namespace Rows
def none {H : Type} : Left H := { results := [], args := [] }

/-- 'mandolinelaw21.ExtentPlays': WHATEVER THE INPUT: true; the input reads as it did. -/
def extentPlaysSpec : ChangeSpec := { name := "extentPlays", fn := fun _ => fun
  | [d1, d2, d3] => { results := [.lit (.bool true)], args := [d1, d2, d3] }
  | _ => none }
def extentPlaysRow : OpenClaim := { program := "ytheiodnckjmieaa", sum := "4ced267613c96f6a12fa74181b6e56b23b1a1fcd5c4a08503ca1a3d05e7c35f7", func := "mandoline/mandolinelaw21.ExtentPlays", spec := "extentPlays", apart := false }
def ExtentPlaysSaid : Prop := extentPlaysRow.holds Try.pinned (OpenSpec.ofChange extentPlaysSpec)

/-- ITS FALSE NEIGHBOUR: 'it returns false'. Refute it at one input. -/
def extentPlaysWrong : ChangeSpec := { name := "extentPlays", fn := fun _ => fun
  | [d1, d2, d3] => { results := [.lit (.bool false)], args := [d1, d2, d3] }
  | _ => none }
def ExtentPlaysWrongFalsely : Prop := extentPlaysRow.holds Try.pinned (OpenSpec.ofChange extentPlaysWrong)

/-- 'mandolinelaw21.ExtentFree': WHATEVER THE INPUT: true; the input reads as it did. -/
def extentFreeSpec : ChangeSpec := { name := "extentFree", fn := fun _ => fun
  | [d1, d2, d3] => { results := [.lit (.bool true)], args := [d1, d2, d3] }
  | _ => none }
def extentFreeRow : OpenClaim := { program := "ytheiodnckjmieaa", sum := "4ced267613c96f6a12fa74181b6e56b23b1a1fcd5c4a08503ca1a3d05e7c35f7", func := "mandoline/mandolinelaw21.ExtentFree", spec := "extentFree", apart := false }
def ExtentFreeSaid : Prop := extentFreeRow.holds Try.pinned (OpenSpec.ofChange extentFreeSpec)

/-- ITS FALSE NEIGHBOUR: 'it returns false'. Refute it at one input. -/
def extentFreeWrong : ChangeSpec := { name := "extentFree", fn := fun _ => fun
  | [d1, d2, d3] => { results := [.lit (.bool false)], args := [d1, d2, d3] }
  | _ => none }
def ExtentFreeWrongFalsely : Prop := extentFreeRow.holds Try.pinned (OpenSpec.ofChange extentFreeWrong)

/-- 'mandolinelaw21.ExtentFirst': WHATEVER THE INPUT: true; the input reads as it did. -/
def extentFirstSpec : ChangeSpec := { name := "extentFirst", fn := fun _ => fun
  | [d1, d2, d3] => { results := [.lit (.bool true)], args := [d1, d2, d3] }
  | _ => none }
def extentFirstRow : OpenClaim := { program := "ytheiodnckjmieaa", sum := "4ced267613c96f6a12fa74181b6e56b23b1a1fcd5c4a08503ca1a3d05e7c35f7", func := "mandoline/mandolinelaw21.ExtentFirst", spec := "extentFirst", apart := false }
def ExtentFirstSaid : Prop := extentFirstRow.holds Try.pinned (OpenSpec.ofChange extentFirstSpec)

/-- ITS FALSE NEIGHBOUR: 'it returns false'. Refute it at one input. -/
def extentFirstWrong : ChangeSpec := { name := "extentFirst", fn := fun _ => fun
  | [d1, d2, d3] => { results := [.lit (.bool false)], args := [d1, d2, d3] }
  | _ => none }
def ExtentFirstWrongFalsely : Prop := extentFirstRow.holds Try.pinned (OpenSpec.ofChange extentFirstWrong)

/-- 'mandolinelaw21.ExtentBack': WHATEVER THE INPUT: true; the input reads as it did. -/
def extentBackSpec : ChangeSpec := { name := "extentBack", fn := fun _ => fun
  | [d1, d2, d3] => { results := [.lit (.bool true)], args := [d1, d2, d3] }
  | _ => none }
def extentBackRow : OpenClaim := { program := "ytheiodnckjmieaa", sum := "4ced267613c96f6a12fa74181b6e56b23b1a1fcd5c4a08503ca1a3d05e7c35f7", func := "mandoline/mandolinelaw21.ExtentBack", spec := "extentBack", apart := false }
def ExtentBackSaid : Prop := extentBackRow.holds Try.pinned (OpenSpec.ofChange extentBackSpec)

/-- ITS FALSE NEIGHBOUR: 'it returns false'. Refute it at one input. -/
def extentBackWrong : ChangeSpec := { name := "extentBack", fn := fun _ => fun
  | [d1, d2, d3] => { results := [.lit (.bool false)], args := [d1, d2, d3] }
  | _ => none }
def ExtentBackWrongFalsely : Prop := extentBackRow.holds Try.pinned (OpenSpec.ofChange extentBackWrong)

/-- 'mandolinelaw21.ExtentClaims': WHATEVER THE INPUT: true; the input reads as it did. -/
def extentClaimsSpec : ChangeSpec := { name := "extentClaims", fn := fun _ => fun
  | [d1, d2, d3] => { results := [.lit (.bool true)], args := [d1, d2, d3] }
  | _ => none }
def extentClaimsRow : OpenClaim := { program := "ytheiodnckjmieaa", sum := "4ced267613c96f6a12fa74181b6e56b23b1a1fcd5c4a08503ca1a3d05e7c35f7", func := "mandoline/mandolinelaw21.ExtentClaims", spec := "extentClaims", apart := false }
def ExtentClaimsSaid : Prop := extentClaimsRow.holds Try.pinned (OpenSpec.ofChange extentClaimsSpec)

/-- ITS FALSE NEIGHBOUR: 'it returns false'. Refute it at one input. -/
def extentClaimsWrong : ChangeSpec := { name := "extentClaims", fn := fun _ => fun
  | [d1, d2, d3] => { results := [.lit (.bool false)], args := [d1, d2, d3] }
  | _ => none }
def ExtentClaimsWrongFalsely : Prop := extentClaimsRow.holds Try.pinned (OpenSpec.ofChange extentClaimsWrong)

/-- 'mandolinelaw21.ExtentApart': WHATEVER THE INPUT: true; the input reads as it did. -/
def extentApartSpec : ChangeSpec := { name := "extentApart", fn := fun _ => fun
  | [d1, d2] => { results := [.lit (.bool true)], args := [d1, d2] }
  | _ => none }
def extentApartRow : OpenClaim := { program := "ytheiodnckjmieaa", sum := "4ced267613c96f6a12fa74181b6e56b23b1a1fcd5c4a08503ca1a3d05e7c35f7", func := "mandoline/mandolinelaw21.ExtentApart", spec := "extentApart", apart := false }
def ExtentApartSaid : Prop := extentApartRow.holds Try.pinned (OpenSpec.ofChange extentApartSpec)

/-- ITS FALSE NEIGHBOUR: 'it returns false'. Refute it at one input. -/
def extentApartWrong : ChangeSpec := { name := "extentApart", fn := fun _ => fun
  | [d1, d2] => { results := [.lit (.bool false)], args := [d1, d2] }
  | _ => none }
def ExtentApartWrongFalsely : Prop := extentApartRow.holds Try.pinned (OpenSpec.ofChange extentApartWrong)

/-- 'mandolinelaw21.ExtentRefused': WHATEVER THE INPUT: true; the input reads as it did. -/
def extentRefusedSpec : ChangeSpec := { name := "extentRefused", fn := fun _ => fun
  | [d1, d2] => { results := [.lit (.bool true)], args := [d1, d2] }
  | _ => none }
def extentRefusedRow : OpenClaim := { program := "ytheiodnckjmieaa", sum := "4ced267613c96f6a12fa74181b6e56b23b1a1fcd5c4a08503ca1a3d05e7c35f7", func := "mandoline/mandolinelaw21.ExtentRefused", spec := "extentRefused", apart := false }
def ExtentRefusedSaid : Prop := extentRefusedRow.holds Try.pinned (OpenSpec.ofChange extentRefusedSpec)

/-- ITS FALSE NEIGHBOUR: 'it returns false'. Refute it at one input. -/
def extentRefusedWrong : ChangeSpec := { name := "extentRefused", fn := fun _ => fun
  | [d1, d2] => { results := [.lit (.bool false)], args := [d1, d2] }
  | _ => none }
def ExtentRefusedWrongFalsely : Prop := extentRefusedRow.holds Try.pinned (OpenSpec.ofChange extentRefusedWrong)

/- THE SECOND FORM. 'bulk': how many values and letters a reading holds, each counted each time it is reached (what is shared counts as often as it is met; a slice's spare places count too). A statement '..UptoSaid' is the law's where the arguments, and the package variables that the reading takes, are together of bulk at most 1048576: NARROWER than '..Said'. Prove '..Said' where nothing that the law and all that it calls make is longer than what came in: it says more and counts as full. Else prove '..UptoSaid'. A law counts once. -/
mutual
def uptoBulk {H : Type} : DataW H → Nat
  | .lit (.string bytes) => bytes.length + 1
  | .lit _ => 1
  | .nil => 1
  | .ptr d => uptoBulk d + 1
  | .slice elems spare => uptoBulkAll elems + uptoBulkAll spare + 1
  | .agg parts => uptoBulkAll parts + 1
  | .iface _ d => uptoBulk d + 1
  | .map entries => uptoBulkEntries entries + 1
  | .held _ => 1
def uptoBulkAll {H : Type} : List (DataW H) → Nat
  | [] => 0
  | d :: r => uptoBulk d + uptoBulkAll r
def uptoBulkEntries {H : Type} : List (Lit × DataW H) → Nat
  | [] => 0
  | x :: r => uptoBulkEntry x + uptoBulkEntries r
def uptoBulkEntry {H : Type} : Lit × DataW H → Nat
  | (.string bytes, d) => bytes.length + uptoBulk d + 1
  | (_, d) => uptoBulk d + 1
 end
def uptoSmall : (H : Type) → List (DataW H) → Bool := fun _ ds => decide (uptoBulkAll ds ≤ 1048576)
def OpenSpec.upto (s : _root_.Go.ChangeSpec) : _root_.Go.OpenSpec := { _root_.Go.OpenSpec.ofChange s with cond := some uptoSmall }

/-- 'mandolinelaw21.ExtentPlays', WHERE WHAT IT READS IS OF BULK AT MOST 1048576: true; the input reads as it did. -/
def extentPlaysUptoRow : OpenClaim := { program := "ytheiodnckjmieaa", sum := "4ced267613c96f6a12fa74181b6e56b23b1a1fcd5c4a08503ca1a3d05e7c35f7", func := "mandoline/mandolinelaw21.ExtentPlays", spec := "extentPlays", apart := false, narrowed := true }
def ExtentPlaysUptoSaid : Prop := extentPlaysUptoRow.holds Try.pinned (OpenSpec.upto extentPlaysSpec)

/-- 'mandolinelaw21.ExtentFree', WHERE WHAT IT READS IS OF BULK AT MOST 1048576: true; the input reads as it did. -/
def extentFreeUptoRow : OpenClaim := { program := "ytheiodnckjmieaa", sum := "4ced267613c96f6a12fa74181b6e56b23b1a1fcd5c4a08503ca1a3d05e7c35f7", func := "mandoline/mandolinelaw21.ExtentFree", spec := "extentFree", apart := false, narrowed := true }
def ExtentFreeUptoSaid : Prop := extentFreeUptoRow.holds Try.pinned (OpenSpec.upto extentFreeSpec)

/-- 'mandolinelaw21.ExtentFirst', WHERE WHAT IT READS IS OF BULK AT MOST 1048576: true; the input reads as it did. -/
def extentFirstUptoRow : OpenClaim := { program := "ytheiodnckjmieaa", sum := "4ced267613c96f6a12fa74181b6e56b23b1a1fcd5c4a08503ca1a3d05e7c35f7", func := "mandoline/mandolinelaw21.ExtentFirst", spec := "extentFirst", apart := false, narrowed := true }
def ExtentFirstUptoSaid : Prop := extentFirstUptoRow.holds Try.pinned (OpenSpec.upto extentFirstSpec)

/-- 'mandolinelaw21.ExtentBack', WHERE WHAT IT READS IS OF BULK AT MOST 1048576: true; the input reads as it did. -/
def extentBackUptoRow : OpenClaim := { program := "ytheiodnckjmieaa", sum := "4ced267613c96f6a12fa74181b6e56b23b1a1fcd5c4a08503ca1a3d05e7c35f7", func := "mandoline/mandolinelaw21.ExtentBack", spec := "extentBack", apart := false, narrowed := true }
def ExtentBackUptoSaid : Prop := extentBackUptoRow.holds Try.pinned (OpenSpec.upto extentBackSpec)

/-- 'mandolinelaw21.ExtentClaims', WHERE WHAT IT READS IS OF BULK AT MOST 1048576: true; the input reads as it did. -/
def extentClaimsUptoRow : OpenClaim := { program := "ytheiodnckjmieaa", sum := "4ced267613c96f6a12fa74181b6e56b23b1a1fcd5c4a08503ca1a3d05e7c35f7", func := "mandoline/mandolinelaw21.ExtentClaims", spec := "extentClaims", apart := false, narrowed := true }
def ExtentClaimsUptoSaid : Prop := extentClaimsUptoRow.holds Try.pinned (OpenSpec.upto extentClaimsSpec)

/-- 'mandolinelaw21.ExtentApart', WHERE WHAT IT READS IS OF BULK AT MOST 1048576: true; the input reads as it did. -/
def extentApartUptoRow : OpenClaim := { program := "ytheiodnckjmieaa", sum := "4ced267613c96f6a12fa74181b6e56b23b1a1fcd5c4a08503ca1a3d05e7c35f7", func := "mandoline/mandolinelaw21.ExtentApart", spec := "extentApart", apart := false, narrowed := true }
def ExtentApartUptoSaid : Prop := extentApartUptoRow.holds Try.pinned (OpenSpec.upto extentApartSpec)

/-- 'mandolinelaw21.ExtentRefused', WHERE WHAT IT READS IS OF BULK AT MOST 1048576: true; the input reads as it did. -/
def extentRefusedUptoRow : OpenClaim := { program := "ytheiodnckjmieaa", sum := "4ced267613c96f6a12fa74181b6e56b23b1a1fcd5c4a08503ca1a3d05e7c35f7", func := "mandoline/mandolinelaw21.ExtentRefused", spec := "extentRefused", apart := false, narrowed := true }
def ExtentRefusedUptoSaid : Prop := extentRefusedUptoRow.holds Try.pinned (OpenSpec.upto extentRefusedSpec)

end Rows
end Go.Proofs.Ytheiodnckjmieaa
