/-
  No cell of these rows narrows 'for every input' (looked for: loops, veiled, ifaces, maps, wideKeys, modest, calm, conditions, laid).
  DERIVED. THE GIVEN ROWS OF THIS SEAT. 5 by the template 'for every input the law returns true; each argument reads behind the call as it read before'; 0 by the template 'total and deterministic' (their statements: YtdoepjokaekckaaTotals.lean).
  GIVEN WITH THE SEED: the statements are not yours to turn. If you find one false, say at which input.
  Laid BY PROGRAM, IN A SANDBOX (cutbox-rows.mjs): the forced cells as the released guide's own fill.sh prints them over the translation f191956d89f7c489… (all of the seat's roots in one cut). By AI agents, Wed Nov 11 2026. No macro, syntax, notation, axiom, sorry.
-/
import Derived.Test.YtdoepjokaekckaaChecked
import GoSem.Claim
import GoSem.ClaimJoined
import GoSem.ClaimMapViews
import Derived.JoinedTies
import Derived.KernelRfl
namespace Go.Proofs.Ytdoepjokaekckaa
/- THE CELL 'sum', in the pinned program and in every row, IS THE sha256 OF THE DUMP (.gsa) THAT YtdoepjokaekckaaProg.lean LOADS. Nothing in Lean hashes anything: it is a label: what it is worth is what the hold of that sum in a sandbox is worth. -/
noncomputable def Try.pinned : Pinned := { name := "ytdoepjokaekckaa", sum := "f191956d89f7c489cccd924df6ef6acd598974340f90fb3b3de27aaad63961ed", checked := Try.checked }
namespace Rows
def none {H : Type} : Left H := { results := [], args := [] }

/-- 'mandolinelaw31.AdmitPlays': WHATEVER THE INPUT: true; the input reads as it did. -/
def admitPlaysSpec : ChangeSpec := { name := "admitPlays", fn := fun _ => fun
  | [d1, d2] => { results := [.lit (.bool true)], args := [d1, d2] }
  | _ => none }
def admitPlaysRow : OpenClaim := { program := "ytdoepjokaekckaa", sum := "f191956d89f7c489cccd924df6ef6acd598974340f90fb3b3de27aaad63961ed", func := "mandoline/mandolinelaw31.AdmitPlays", spec := "admitPlays", apart := false }
def AdmitPlaysSaid : Prop := admitPlaysRow.holds Try.pinned (OpenSpec.ofChange admitPlaysSpec)

/-- ITS FALSE NEIGHBOUR: 'it returns false'. Refute it at one input. -/
def admitPlaysWrong : ChangeSpec := { name := "admitPlays", fn := fun _ => fun
  | [d1, d2] => { results := [.lit (.bool false)], args := [d1, d2] }
  | _ => none }
def AdmitPlaysWrongFalsely : Prop := admitPlaysRow.holds Try.pinned (OpenSpec.ofChange admitPlaysWrong)

/-- 'mandolinelaw31.AdmitLimits': WHATEVER THE INPUT: true; the input reads as it did. -/
def admitLimitsSpec : ChangeSpec := { name := "admitLimits", fn := fun _ => fun
  | [d1, d2, d3] => { results := [.lit (.bool true)], args := [d1, d2, d3] }
  | _ => none }
def admitLimitsRow : OpenClaim := { program := "ytdoepjokaekckaa", sum := "f191956d89f7c489cccd924df6ef6acd598974340f90fb3b3de27aaad63961ed", func := "mandoline/mandolinelaw31.AdmitLimits", spec := "admitLimits", apart := false }
def AdmitLimitsSaid : Prop := admitLimitsRow.holds Try.pinned (OpenSpec.ofChange admitLimitsSpec)

/-- ITS FALSE NEIGHBOUR: 'it returns false'. Refute it at one input. -/
def admitLimitsWrong : ChangeSpec := { name := "admitLimits", fn := fun _ => fun
  | [d1, d2, d3] => { results := [.lit (.bool false)], args := [d1, d2, d3] }
  | _ => none }
def AdmitLimitsWrongFalsely : Prop := admitLimitsRow.holds Try.pinned (OpenSpec.ofChange admitLimitsWrong)

/-- 'mandolinelaw31.AdmitRoom': WHATEVER THE INPUT: true; the input reads as it did. -/
def admitRoomSpec : ChangeSpec := { name := "admitRoom", fn := fun _ => fun
  | [d1, d2, d3] => { results := [.lit (.bool true)], args := [d1, d2, d3] }
  | _ => none }
def admitRoomRow : OpenClaim := { program := "ytdoepjokaekckaa", sum := "f191956d89f7c489cccd924df6ef6acd598974340f90fb3b3de27aaad63961ed", func := "mandoline/mandolinelaw31.AdmitRoom", spec := "admitRoom", apart := false }
def AdmitRoomSaid : Prop := admitRoomRow.holds Try.pinned (OpenSpec.ofChange admitRoomSpec)

/-- ITS FALSE NEIGHBOUR: 'it returns false'. Refute it at one input. -/
def admitRoomWrong : ChangeSpec := { name := "admitRoom", fn := fun _ => fun
  | [d1, d2, d3] => { results := [.lit (.bool false)], args := [d1, d2, d3] }
  | _ => none }
def AdmitRoomWrongFalsely : Prop := admitRoomRow.holds Try.pinned (OpenSpec.ofChange admitRoomWrong)

/-- 'mandolinelaw31.AdmitRefuses': WHATEVER THE INPUT: true; the input reads as it did. -/
def admitRefusesSpec : ChangeSpec := { name := "admitRefuses", fn := fun _ => fun
  | [d1, d2, d3] => { results := [.lit (.bool true)], args := [d1, d2, d3] }
  | _ => none }
def admitRefusesRow : OpenClaim := { program := "ytdoepjokaekckaa", sum := "f191956d89f7c489cccd924df6ef6acd598974340f90fb3b3de27aaad63961ed", func := "mandoline/mandolinelaw31.AdmitRefuses", spec := "admitRefuses", apart := false }
def AdmitRefusesSaid : Prop := admitRefusesRow.holds Try.pinned (OpenSpec.ofChange admitRefusesSpec)

/-- ITS FALSE NEIGHBOUR: 'it returns false'. Refute it at one input. -/
def admitRefusesWrong : ChangeSpec := { name := "admitRefuses", fn := fun _ => fun
  | [d1, d2, d3] => { results := [.lit (.bool false)], args := [d1, d2, d3] }
  | _ => none }
def AdmitRefusesWrongFalsely : Prop := admitRefusesRow.holds Try.pinned (OpenSpec.ofChange admitRefusesWrong)

/-- 'mandolinelaw31.AdmitNil': WHATEVER THE INPUT: true; the input reads as it did. -/
def admitNilSpec : ChangeSpec := { name := "admitNil", fn := fun _ => fun
  | [d1, d2] => { results := [.lit (.bool true)], args := [d1, d2] }
  | _ => none }
def admitNilRow : OpenClaim := { program := "ytdoepjokaekckaa", sum := "f191956d89f7c489cccd924df6ef6acd598974340f90fb3b3de27aaad63961ed", func := "mandoline/mandolinelaw31.AdmitNil", spec := "admitNil", apart := false }
def AdmitNilSaid : Prop := admitNilRow.holds Try.pinned (OpenSpec.ofChange admitNilSpec)

/-- ITS FALSE NEIGHBOUR: 'it returns false'. Refute it at one input. -/
def admitNilWrong : ChangeSpec := { name := "admitNil", fn := fun _ => fun
  | [d1, d2] => { results := [.lit (.bool false)], args := [d1, d2] }
  | _ => none }
def AdmitNilWrongFalsely : Prop := admitNilRow.holds Try.pinned (OpenSpec.ofChange admitNilWrong)

/- THE SECOND FORM. 'bulk': how many values and letters a reading holds, each counted each time it is reached (what is shared counts as often as it is met; a slice's spare places count too). A statement '..UptoSaid' is the law's where the arguments, and the package variables that the reading takes, are together of bulk at most 1048576: NARROWER than '..Said'. Prove '..Said' where nothing that the law and all that it calls make is longer than what came in: it says more and counts as full. Else prove '..UptoSaid'. A law counts once. -/
mutual
def uptoBulk {H : Type} : DataW H → Nat
  | .lit (.string bytes) => bytes.length + 1
  | .lit _ => 1
  | .nil => 1
  | .ptr d => uptoBulk d + 1
  | .slice elems spare => uptoBulkAll elems + uptoBulkAll spare + 1
  | .agg parts => uptoBulkAll parts + 1
  | .iface _ d => uptoBulk d + 1
  | .map entries => uptoBulkEntries entries + 1
  | .held _ => 1
def uptoBulkAll {H : Type} : List (DataW H) → Nat
  | [] => 0
  | d :: r => uptoBulk d + uptoBulkAll r
def uptoBulkEntries {H : Type} : List (Lit × DataW H) → Nat
  | [] => 0
  | x :: r => uptoBulkEntry x + uptoBulkEntries r
def uptoBulkEntry {H : Type} : Lit × DataW H → Nat
  | (.string bytes, d) => bytes.length + uptoBulk d + 1
  | (_, d) => uptoBulk d + 1
 end
def uptoSmall : (H : Type) → List (DataW H) → Bool := fun _ ds => decide (uptoBulkAll ds ≤ 1048576)
def OpenSpec.upto (s : _root_.Go.ChangeSpec) : _root_.Go.OpenSpec := { _root_.Go.OpenSpec.ofChange s with cond := some uptoSmall }

/-- 'mandolinelaw31.AdmitPlays', WHERE WHAT IT READS IS OF BULK AT MOST 1048576: true; the input reads as it did. -/
def admitPlaysUptoRow : OpenClaim := { program := "ytdoepjokaekckaa", sum := "f191956d89f7c489cccd924df6ef6acd598974340f90fb3b3de27aaad63961ed", func := "mandoline/mandolinelaw31.AdmitPlays", spec := "admitPlays", apart := false, narrowed := true }
def AdmitPlaysUptoSaid : Prop := admitPlaysUptoRow.holds Try.pinned (OpenSpec.upto admitPlaysSpec)

/-- 'mandolinelaw31.AdmitLimits', WHERE WHAT IT READS IS OF BULK AT MOST 1048576: true; the input reads as it did. -/
def admitLimitsUptoRow : OpenClaim := { program := "ytdoepjokaekckaa", sum := "f191956d89f7c489cccd924df6ef6acd598974340f90fb3b3de27aaad63961ed", func := "mandoline/mandolinelaw31.AdmitLimits", spec := "admitLimits", apart := false, narrowed := true }
def AdmitLimitsUptoSaid : Prop := admitLimitsUptoRow.holds Try.pinned (OpenSpec.upto admitLimitsSpec)

/-- 'mandolinelaw31.AdmitRoom', WHERE WHAT IT READS IS OF BULK AT MOST 1048576: true; the input reads as it did. -/
def admitRoomUptoRow : OpenClaim := { program := "ytdoepjokaekckaa", sum := "f191956d89f7c489cccd924df6ef6acd598974340f90fb3b3de27aaad63961ed", func := "mandoline/mandolinelaw31.AdmitRoom", spec := "admitRoom", apart := false, narrowed := true }
def AdmitRoomUptoSaid : Prop := admitRoomUptoRow.holds Try.pinned (OpenSpec.upto admitRoomSpec)

/-- 'mandolinelaw31.AdmitRefuses', WHERE WHAT IT READS IS OF BULK AT MOST 1048576: true; the input reads as it did. -/
def admitRefusesUptoRow : OpenClaim := { program := "ytdoepjokaekckaa", sum := "f191956d89f7c489cccd924df6ef6acd598974340f90fb3b3de27aaad63961ed", func := "mandoline/mandolinelaw31.AdmitRefuses", spec := "admitRefuses", apart := false, narrowed := true }
def AdmitRefusesUptoSaid : Prop := admitRefusesUptoRow.holds Try.pinned (OpenSpec.upto admitRefusesSpec)

/-- 'mandolinelaw31.AdmitNil', WHERE WHAT IT READS IS OF BULK AT MOST 1048576: true; the input reads as it did. -/
def admitNilUptoRow : OpenClaim := { program := "ytdoepjokaekckaa", sum := "f191956d89f7c489cccd924df6ef6acd598974340f90fb3b3de27aaad63961ed", func := "mandoline/mandolinelaw31.AdmitNil", spec := "admitNil", apart := false, narrowed := true }
def AdmitNilUptoSaid : Prop := admitNilUptoRow.holds Try.pinned (OpenSpec.upto admitNilSpec)

end Rows
end Go.Proofs.Ytdoepjokaekckaa
