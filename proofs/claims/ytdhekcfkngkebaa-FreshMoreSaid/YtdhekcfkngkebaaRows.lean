/-
  No cell of these rows narrows 'for every input' (looked for: loops, veiled, ifaces, maps, wideKeys, modest, calm, conditions, laid).
  DERIVED. THE GIVEN ROWS OF THIS SEAT. 7 by the template 'for every input the law returns true; each argument reads behind the call as it read before'; 0 by the template 'total and deterministic' (their statements: YtdhekcfkngkebaaTotals.lean).
  GIVEN WITH THE SEED: the statements are not yours to turn. If you find one false, say at which input.
  Laid BY PROGRAM, IN A SANDBOX (cutbox-rows.mjs): the forced cells as the released guide's own fill.sh prints them over the translation 1201d148098eb311… (all of the seat's roots in one cut). By AI agents, Wed Nov 11 2026. No macro, syntax, notation, axiom, sorry.
-/
import Derived.Test.YtdhekcfkngkebaaChecked
import GoSem.Claim
import GoSem.ClaimJoined
import GoSem.ClaimMapViews
import Derived.JoinedTies
import Derived.KernelRfl
namespace Go.Proofs.Ytdhekcfkngkebaa
/- THE CELL 'sum', in the pinned program and in every row, IS THE sha256 OF THE DUMP (.gsa) THAT YtdhekcfkngkebaaProg.lean LOADS. Nothing in Lean hashes anything: it is a label: what it is worth is what the hold of that sum in a sandbox is worth. -/
noncomputable def Try.pinned : Pinned := { name := "ytdhekcfkngkebaa", sum := "1201d148098eb31187387b75bbdcee669c65ea12fcd424ca5a868e4b9d5ff610", checked := Try.checked }
namespace Rows
def none {H : Type} : Left H := { results := [], args := [] }

/-- 'mandolinelaw34.FreshUntil': WHATEVER THE INPUT: true; the input reads as it did. -/
def freshUntilSpec : ChangeSpec := { name := "freshUntil", fn := fun _ => fun
  | [d1, d2, d3] => { results := [.lit (.bool true)], args := [d1, d2, d3] }
  | _ => none }
def freshUntilRow : OpenClaim := { program := "ytdhekcfkngkebaa", sum := "1201d148098eb31187387b75bbdcee669c65ea12fcd424ca5a868e4b9d5ff610", func := "mandoline/mandolinelaw34.FreshUntil", spec := "freshUntil", apart := false }
def FreshUntilSaid : Prop := freshUntilRow.holds Try.pinned (OpenSpec.ofChange freshUntilSpec)

/-- ITS FALSE NEIGHBOUR: 'it returns false'. Refute it at one input. -/
def freshUntilWrong : ChangeSpec := { name := "freshUntil", fn := fun _ => fun
  | [d1, d2, d3] => { results := [.lit (.bool false)], args := [d1, d2, d3] }
  | _ => none }
def FreshUntilWrongFalsely : Prop := freshUntilRow.holds Try.pinned (OpenSpec.ofChange freshUntilWrong)

/-- 'mandolinelaw34.FreshTurns': WHATEVER THE INPUT: true; the input reads as it did. -/
def freshTurnsSpec : ChangeSpec := { name := "freshTurns", fn := fun _ => fun
  | [d1, d2, d3] => { results := [.lit (.bool true)], args := [d1, d2, d3] }
  | _ => none }
def freshTurnsRow : OpenClaim := { program := "ytdhekcfkngkebaa", sum := "1201d148098eb31187387b75bbdcee669c65ea12fcd424ca5a868e4b9d5ff610", func := "mandoline/mandolinelaw34.FreshTurns", spec := "freshTurns", apart := false }
def FreshTurnsSaid : Prop := freshTurnsRow.holds Try.pinned (OpenSpec.ofChange freshTurnsSpec)

/-- ITS FALSE NEIGHBOUR: 'it returns false'. Refute it at one input. -/
def freshTurnsWrong : ChangeSpec := { name := "freshTurns", fn := fun _ => fun
  | [d1, d2, d3] => { results := [.lit (.bool false)], args := [d1, d2, d3] }
  | _ => none }
def FreshTurnsWrongFalsely : Prop := freshTurnsRow.holds Try.pinned (OpenSpec.ofChange freshTurnsWrong)

/-- 'mandolinelaw34.FreshFalls': WHATEVER THE INPUT: true; the input reads as it did. -/
def freshFallsSpec : ChangeSpec := { name := "freshFalls", fn := fun _ => fun
  | [d1, d2, d3] => { results := [.lit (.bool true)], args := [d1, d2, d3] }
  | _ => none }
def freshFallsRow : OpenClaim := { program := "ytdhekcfkngkebaa", sum := "1201d148098eb31187387b75bbdcee669c65ea12fcd424ca5a868e4b9d5ff610", func := "mandoline/mandolinelaw34.FreshFalls", spec := "freshFalls", apart := false }
def FreshFallsSaid : Prop := freshFallsRow.holds Try.pinned (OpenSpec.ofChange freshFallsSpec)

/-- ITS FALSE NEIGHBOUR: 'it returns false'. Refute it at one input. -/
def freshFallsWrong : ChangeSpec := { name := "freshFalls", fn := fun _ => fun
  | [d1, d2, d3] => { results := [.lit (.bool false)], args := [d1, d2, d3] }
  | _ => none }
def FreshFallsWrongFalsely : Prop := freshFallsRow.holds Try.pinned (OpenSpec.ofChange freshFallsWrong)

/-- 'mandolinelaw34.FreshStates': WHATEVER THE INPUT: true; the input reads as it did. -/
def freshStatesSpec : ChangeSpec := { name := "freshStates", fn := fun _ => fun
  | [d1, d2, d3] => { results := [.lit (.bool true)], args := [d1, d2, d3] }
  | _ => none }
def freshStatesRow : OpenClaim := { program := "ytdhekcfkngkebaa", sum := "1201d148098eb31187387b75bbdcee669c65ea12fcd424ca5a868e4b9d5ff610", func := "mandoline/mandolinelaw34.FreshStates", spec := "freshStates", apart := false }
def FreshStatesSaid : Prop := freshStatesRow.holds Try.pinned (OpenSpec.ofChange freshStatesSpec)

/-- ITS FALSE NEIGHBOUR: 'it returns false'. Refute it at one input. -/
def freshStatesWrong : ChangeSpec := { name := "freshStates", fn := fun _ => fun
  | [d1, d2, d3] => { results := [.lit (.bool false)], args := [d1, d2, d3] }
  | _ => none }
def FreshStatesWrongFalsely : Prop := freshStatesRow.holds Try.pinned (OpenSpec.ofChange freshStatesWrong)

/-- 'mandolinelaw34.FreshAges': WHATEVER THE INPUT: true; the input reads as it did. -/
def freshAgesSpec : ChangeSpec := { name := "freshAges", fn := fun _ => fun
  | [d1, d2] => { results := [.lit (.bool true)], args := [d1, d2] }
  | _ => none }
def freshAgesRow : OpenClaim := { program := "ytdhekcfkngkebaa", sum := "1201d148098eb31187387b75bbdcee669c65ea12fcd424ca5a868e4b9d5ff610", func := "mandoline/mandolinelaw34.FreshAges", spec := "freshAges", apart := false }
def FreshAgesSaid : Prop := freshAgesRow.holds Try.pinned (OpenSpec.ofChange freshAgesSpec)

/-- ITS FALSE NEIGHBOUR: 'it returns false'. Refute it at one input. -/
def freshAgesWrong : ChangeSpec := { name := "freshAges", fn := fun _ => fun
  | [d1, d2] => { results := [.lit (.bool false)], args := [d1, d2] }
  | _ => none }
def FreshAgesWrongFalsely : Prop := freshAgesRow.holds Try.pinned (OpenSpec.ofChange freshAgesWrong)

/-- 'mandolinelaw34.FreshCovers': WHATEVER THE INPUT: true; the input reads as it did. -/
def freshCoversSpec : ChangeSpec := { name := "freshCovers", fn := fun _ => fun
  | [d1, d2, d3] => { results := [.lit (.bool true)], args := [d1, d2, d3] }
  | _ => none }
def freshCoversRow : OpenClaim := { program := "ytdhekcfkngkebaa", sum := "1201d148098eb31187387b75bbdcee669c65ea12fcd424ca5a868e4b9d5ff610", func := "mandoline/mandolinelaw34.FreshCovers", spec := "freshCovers", apart := false }
def FreshCoversSaid : Prop := freshCoversRow.holds Try.pinned (OpenSpec.ofChange freshCoversSpec)

/-- ITS FALSE NEIGHBOUR: 'it returns false'. Refute it at one input. -/
def freshCoversWrong : ChangeSpec := { name := "freshCovers", fn := fun _ => fun
  | [d1, d2, d3] => { results := [.lit (.bool false)], args := [d1, d2, d3] }
  | _ => none }
def FreshCoversWrongFalsely : Prop := freshCoversRow.holds Try.pinned (OpenSpec.ofChange freshCoversWrong)

/-- 'mandolinelaw34.FreshMore': WHATEVER THE INPUT: true; the input reads as it did. -/
def freshMoreSpec : ChangeSpec := { name := "freshMore", fn := fun _ => fun
  | [d1, d2, d3] => { results := [.lit (.bool true)], args := [d1, d2, d3] }
  | _ => none }
def freshMoreRow : OpenClaim := { program := "ytdhekcfkngkebaa", sum := "1201d148098eb31187387b75bbdcee669c65ea12fcd424ca5a868e4b9d5ff610", func := "mandoline/mandolinelaw34.FreshMore", spec := "freshMore", apart := false }
def FreshMoreSaid : Prop := freshMoreRow.holds Try.pinned (OpenSpec.ofChange freshMoreSpec)

/-- ITS FALSE NEIGHBOUR: 'it returns false'. Refute it at one input. -/
def freshMoreWrong : ChangeSpec := { name := "freshMore", fn := fun _ => fun
  | [d1, d2, d3] => { results := [.lit (.bool false)], args := [d1, d2, d3] }
  | _ => none }
def FreshMoreWrongFalsely : Prop := freshMoreRow.holds Try.pinned (OpenSpec.ofChange freshMoreWrong)

/- THE SECOND FORM. 'bulk': how many values and letters a reading holds, each counted each time it is reached (what is shared counts as often as it is met; a slice's spare places count too). A statement '..UptoSaid' is the law's where the arguments, and the package variables that the reading takes, are together of bulk at most 1048576: NARROWER than '..Said'. Prove '..Said' where nothing that the law and all that it calls make is longer than what came in: it says more and counts as full. Else prove '..UptoSaid'. A law counts once. -/
mutual
def uptoBulk {H : Type} : DataW H → Nat
  | .lit (.string bytes) => bytes.length + 1
  | .lit _ => 1
  | .nil => 1
  | .ptr d => uptoBulk d + 1
  | .slice elems spare => uptoBulkAll elems + uptoBulkAll spare + 1
  | .agg parts => uptoBulkAll parts + 1
  | .iface _ d => uptoBulk d + 1
  | .map entries => uptoBulkEntries entries + 1
  | .held _ => 1
def uptoBulkAll {H : Type} : List (DataW H) → Nat
  | [] => 0
  | d :: r => uptoBulk d + uptoBulkAll r
def uptoBulkEntries {H : Type} : List (Lit × DataW H) → Nat
  | [] => 0
  | x :: r => uptoBulkEntry x + uptoBulkEntries r
def uptoBulkEntry {H : Type} : Lit × DataW H → Nat
  | (.string bytes, d) => bytes.length + uptoBulk d + 1
  | (_, d) => uptoBulk d + 1
 end
def uptoSmall : (H : Type) → List (DataW H) → Bool := fun _ ds => decide (uptoBulkAll ds ≤ 1048576)
def OpenSpec.upto (s : _root_.Go.ChangeSpec) : _root_.Go.OpenSpec := { _root_.Go.OpenSpec.ofChange s with cond := some uptoSmall }

/-- 'mandolinelaw34.FreshUntil', WHERE WHAT IT READS IS OF BULK AT MOST 1048576: true; the input reads as it did. -/
def freshUntilUptoRow : OpenClaim := { program := "ytdhekcfkngkebaa", sum := "1201d148098eb31187387b75bbdcee669c65ea12fcd424ca5a868e4b9d5ff610", func := "mandoline/mandolinelaw34.FreshUntil", spec := "freshUntil", apart := false, narrowed := true }
def FreshUntilUptoSaid : Prop := freshUntilUptoRow.holds Try.pinned (OpenSpec.upto freshUntilSpec)

/-- 'mandolinelaw34.FreshTurns', WHERE WHAT IT READS IS OF BULK AT MOST 1048576: true; the input reads as it did. -/
def freshTurnsUptoRow : OpenClaim := { program := "ytdhekcfkngkebaa", sum := "1201d148098eb31187387b75bbdcee669c65ea12fcd424ca5a868e4b9d5ff610", func := "mandoline/mandolinelaw34.FreshTurns", spec := "freshTurns", apart := false, narrowed := true }
def FreshTurnsUptoSaid : Prop := freshTurnsUptoRow.holds Try.pinned (OpenSpec.upto freshTurnsSpec)

/-- 'mandolinelaw34.FreshFalls', WHERE WHAT IT READS IS OF BULK AT MOST 1048576: true; the input reads as it did. -/
def freshFallsUptoRow : OpenClaim := { program := "ytdhekcfkngkebaa", sum := "1201d148098eb31187387b75bbdcee669c65ea12fcd424ca5a868e4b9d5ff610", func := "mandoline/mandolinelaw34.FreshFalls", spec := "freshFalls", apart := false, narrowed := true }
def FreshFallsUptoSaid : Prop := freshFallsUptoRow.holds Try.pinned (OpenSpec.upto freshFallsSpec)

/-- 'mandolinelaw34.FreshStates', WHERE WHAT IT READS IS OF BULK AT MOST 1048576: true; the input reads as it did. -/
def freshStatesUptoRow : OpenClaim := { program := "ytdhekcfkngkebaa", sum := "1201d148098eb31187387b75bbdcee669c65ea12fcd424ca5a868e4b9d5ff610", func := "mandoline/mandolinelaw34.FreshStates", spec := "freshStates", apart := false, narrowed := true }
def FreshStatesUptoSaid : Prop := freshStatesUptoRow.holds Try.pinned (OpenSpec.upto freshStatesSpec)

/-- 'mandolinelaw34.FreshAges', WHERE WHAT IT READS IS OF BULK AT MOST 1048576: true; the input reads as it did. -/
def freshAgesUptoRow : OpenClaim := { program := "ytdhekcfkngkebaa", sum := "1201d148098eb31187387b75bbdcee669c65ea12fcd424ca5a868e4b9d5ff610", func := "mandoline/mandolinelaw34.FreshAges", spec := "freshAges", apart := false, narrowed := true }
def FreshAgesUptoSaid : Prop := freshAgesUptoRow.holds Try.pinned (OpenSpec.upto freshAgesSpec)

/-- 'mandolinelaw34.FreshCovers', WHERE WHAT IT READS IS OF BULK AT MOST 1048576: true; the input reads as it did. -/
def freshCoversUptoRow : OpenClaim := { program := "ytdhekcfkngkebaa", sum := "1201d148098eb31187387b75bbdcee669c65ea12fcd424ca5a868e4b9d5ff610", func := "mandoline/mandolinelaw34.FreshCovers", spec := "freshCovers", apart := false, narrowed := true }
def FreshCoversUptoSaid : Prop := freshCoversUptoRow.holds Try.pinned (OpenSpec.upto freshCoversSpec)

/-- 'mandolinelaw34.FreshMore', WHERE WHAT IT READS IS OF BULK AT MOST 1048576: true; the input reads as it did. -/
def freshMoreUptoRow : OpenClaim := { program := "ytdhekcfkngkebaa", sum := "1201d148098eb31187387b75bbdcee669c65ea12fcd424ca5a868e4b9d5ff610", func := "mandoline/mandolinelaw34.FreshMore", spec := "freshMore", apart := false, narrowed := true }
def FreshMoreUptoSaid : Prop := freshMoreUptoRow.holds Try.pinned (OpenSpec.upto freshMoreSpec)

end Rows
end Go.Proofs.Ytdhekcfkngkebaa
