/-
  No cell of these rows narrows 'for every input' (looked for: loops, veiled, ifaces, maps, wideKeys, modest, calm, conditions, laid).
  DERIVED. THE GIVEN ROWS OF THIS SEAT. 5 by the template 'for every input the law returns true; each argument reads behind the call as it read before'; 0 by the template 'total and deterministic' (their statements: YtnkhlnnkjmjfcaaTotals.lean).
  GIVEN WITH THE SEED: the statements are not yours to turn. If you find one false, say at which input.
  Laid BY PROGRAM, IN A SANDBOX (cutbox-rows.mjs): the forced cells as the released guide's own fill.sh prints them over the translation 7a31be8b1674a432… (all of the seat's roots in one cut). By AI agents, Wed Nov 11 2026. No macro, syntax, notation, axiom, sorry.
-/
import Derived.Test.YtnkhlnnkjmjfcaaChecked
import GoSem.Claim
import GoSem.ClaimJoined
import GoSem.ClaimMapViews
import Derived.JoinedTies
import Derived.KernelRfl
namespace Go.Proofs.Ytnkhlnnkjmjfcaa
/- THE CELL 'sum', in the pinned program and in every row, IS THE sha256 OF THE DUMP (.gsa) THAT YtnkhlnnkjmjfcaaProg.lean LOADS. Nothing in Lean hashes anything: it is a label: what it is worth is what the hold of that sum in a sandbox is worth. -/
noncomputable def Try.pinned : Pinned := { name := "ytnkhlnnkjmjfcaa", sum := "7a31be8b1674a432c02d6fa9756db9b01edc3ecea4659f58a79fb4e12559f9e6", checked := Try.checked }
namespace Rows
def none {H : Type} : Left H := { results := [], args := [] }

/-- 'mandolinelaw55.RetryTimes': WHATEVER THE INPUT: true; the input reads as it did. -/
def retryTimesSpec : ChangeSpec := { name := "retryTimes", fn := fun _ => fun
  | [d1, d2, d3] => { results := [.lit (.bool true)], args := [d1, d2, d3] }
  | _ => none }
def retryTimesRow : OpenClaim := { program := "ytnkhlnnkjmjfcaa", sum := "7a31be8b1674a432c02d6fa9756db9b01edc3ecea4659f58a79fb4e12559f9e6", func := "mandoline/mandolinelaw55.RetryTimes", spec := "retryTimes", apart := false }
def RetryTimesSaid : Prop := retryTimesRow.holds Try.pinned (OpenSpec.ofChange retryTimesSpec)

/-- ITS FALSE NEIGHBOUR: 'it returns false'. Refute it at one input. -/
def retryTimesWrong : ChangeSpec := { name := "retryTimes", fn := fun _ => fun
  | [d1, d2, d3] => { results := [.lit (.bool false)], args := [d1, d2, d3] }
  | _ => none }
def RetryTimesWrongFalsely : Prop := retryTimesRow.holds Try.pinned (OpenSpec.ofChange retryTimesWrong)

/-- 'mandolinelaw55.RetryRests': WHATEVER THE INPUT: true; the input reads as it did. -/
def retryRestsSpec : ChangeSpec := { name := "retryRests", fn := fun _ => fun
  | [d1, d2, d3] => { results := [.lit (.bool true)], args := [d1, d2, d3] }
  | _ => none }
def retryRestsRow : OpenClaim := { program := "ytnkhlnnkjmjfcaa", sum := "7a31be8b1674a432c02d6fa9756db9b01edc3ecea4659f58a79fb4e12559f9e6", func := "mandoline/mandolinelaw55.RetryRests", spec := "retryRests", apart := false }
def RetryRestsSaid : Prop := retryRestsRow.holds Try.pinned (OpenSpec.ofChange retryRestsSpec)

/-- ITS FALSE NEIGHBOUR: 'it returns false'. Refute it at one input. -/
def retryRestsWrong : ChangeSpec := { name := "retryRests", fn := fun _ => fun
  | [d1, d2, d3] => { results := [.lit (.bool false)], args := [d1, d2, d3] }
  | _ => none }
def RetryRestsWrongFalsely : Prop := retryRestsRow.holds Try.pinned (OpenSpec.ofChange retryRestsWrong)

/-- 'mandolinelaw55.RetryNews': WHATEVER THE INPUT: true; the input reads as it did. -/
def retryNewsSpec : ChangeSpec := { name := "retryNews", fn := fun _ => fun
  | [d1, d2, d3] => { results := [.lit (.bool true)], args := [d1, d2, d3] }
  | _ => none }
def retryNewsRow : OpenClaim := { program := "ytnkhlnnkjmjfcaa", sum := "7a31be8b1674a432c02d6fa9756db9b01edc3ecea4659f58a79fb4e12559f9e6", func := "mandoline/mandolinelaw55.RetryNews", spec := "retryNews", apart := false }
def RetryNewsSaid : Prop := retryNewsRow.holds Try.pinned (OpenSpec.ofChange retryNewsSpec)

/-- ITS FALSE NEIGHBOUR: 'it returns false'. Refute it at one input. -/
def retryNewsWrong : ChangeSpec := { name := "retryNews", fn := fun _ => fun
  | [d1, d2, d3] => { results := [.lit (.bool false)], args := [d1, d2, d3] }
  | _ => none }
def RetryNewsWrongFalsely : Prop := retryNewsRow.holds Try.pinned (OpenSpec.ofChange retryNewsWrong)

/-- 'mandolinelaw55.RetryNil': WHATEVER THE INPUT: true; the input reads as it did. -/
def retryNilSpec : ChangeSpec := { name := "retryNil", fn := fun _ => fun
  | [d1, d2] => { results := [.lit (.bool true)], args := [d1, d2] }
  | _ => none }
def retryNilRow : OpenClaim := { program := "ytnkhlnnkjmjfcaa", sum := "7a31be8b1674a432c02d6fa9756db9b01edc3ecea4659f58a79fb4e12559f9e6", func := "mandoline/mandolinelaw55.RetryNil", spec := "retryNil", apart := false }
def RetryNilSaid : Prop := retryNilRow.holds Try.pinned (OpenSpec.ofChange retryNilSpec)

/-- ITS FALSE NEIGHBOUR: 'it returns false'. Refute it at one input. -/
def retryNilWrong : ChangeSpec := { name := "retryNil", fn := fun _ => fun
  | [d1, d2] => { results := [.lit (.bool false)], args := [d1, d2] }
  | _ => none }
def RetryNilWrongFalsely : Prop := retryNilRow.holds Try.pinned (OpenSpec.ofChange retryNilWrong)

/-- 'mandolinelaw55.RetryBlows': WHATEVER THE INPUT: true; the input reads as it did. -/
def retryBlowsSpec : ChangeSpec := { name := "retryBlows", fn := fun _ => fun
  | [d1, d2, d3] => { results := [.lit (.bool true)], args := [d1, d2, d3] }
  | _ => none }
def retryBlowsRow : OpenClaim := { program := "ytnkhlnnkjmjfcaa", sum := "7a31be8b1674a432c02d6fa9756db9b01edc3ecea4659f58a79fb4e12559f9e6", func := "mandoline/mandolinelaw55.RetryBlows", spec := "retryBlows", apart := false }
def RetryBlowsSaid : Prop := retryBlowsRow.holds Try.pinned (OpenSpec.ofChange retryBlowsSpec)

/-- ITS FALSE NEIGHBOUR: 'it returns false'. Refute it at one input. -/
def retryBlowsWrong : ChangeSpec := { name := "retryBlows", fn := fun _ => fun
  | [d1, d2, d3] => { results := [.lit (.bool false)], args := [d1, d2, d3] }
  | _ => none }
def RetryBlowsWrongFalsely : Prop := retryBlowsRow.holds Try.pinned (OpenSpec.ofChange retryBlowsWrong)

/- THE SECOND FORM. 'bulk': how many values and letters a reading holds, each counted each time it is reached (what is shared counts as often as it is met; a slice's spare places count too). A statement '..UptoSaid' is the law's where the arguments, and the package variables that the reading takes, are together of bulk at most 1048576: NARROWER than '..Said'. Prove '..Said' where nothing that the law and all that it calls make is longer than what came in: it says more and counts as full. Else prove '..UptoSaid'. A law counts once. -/
mutual
def uptoBulk {H : Type} : DataW H → Nat
  | .lit (.string bytes) => bytes.length + 1
  | .lit _ => 1
  | .nil => 1
  | .ptr d => uptoBulk d + 1
  | .slice elems spare => uptoBulkAll elems + uptoBulkAll spare + 1
  | .agg parts => uptoBulkAll parts + 1
  | .iface _ d => uptoBulk d + 1
  | .map entries => uptoBulkEntries entries + 1
  | .held _ => 1
def uptoBulkAll {H : Type} : List (DataW H) → Nat
  | [] => 0
  | d :: r => uptoBulk d + uptoBulkAll r
def uptoBulkEntries {H : Type} : List (Lit × DataW H) → Nat
  | [] => 0
  | x :: r => uptoBulkEntry x + uptoBulkEntries r
def uptoBulkEntry {H : Type} : Lit × DataW H → Nat
  | (.string bytes, d) => bytes.length + uptoBulk d + 1
  | (_, d) => uptoBulk d + 1
 end
def uptoSmall : (H : Type) → List (DataW H) → Bool := fun _ ds => decide (uptoBulkAll ds ≤ 1048576)
def OpenSpec.upto (s : _root_.Go.ChangeSpec) : _root_.Go.OpenSpec := { _root_.Go.OpenSpec.ofChange s with cond := some uptoSmall }

/-- 'mandolinelaw55.RetryTimes', WHERE WHAT IT READS IS OF BULK AT MOST 1048576: true; the input reads as it did. -/
def retryTimesUptoRow : OpenClaim := { program := "ytnkhlnnkjmjfcaa", sum := "7a31be8b1674a432c02d6fa9756db9b01edc3ecea4659f58a79fb4e12559f9e6", func := "mandoline/mandolinelaw55.RetryTimes", spec := "retryTimes", apart := false, narrowed := true }
def RetryTimesUptoSaid : Prop := retryTimesUptoRow.holds Try.pinned (OpenSpec.upto retryTimesSpec)

/-- 'mandolinelaw55.RetryRests', WHERE WHAT IT READS IS OF BULK AT MOST 1048576: true; the input reads as it did. -/
def retryRestsUptoRow : OpenClaim := { program := "ytnkhlnnkjmjfcaa", sum := "7a31be8b1674a432c02d6fa9756db9b01edc3ecea4659f58a79fb4e12559f9e6", func := "mandoline/mandolinelaw55.RetryRests", spec := "retryRests", apart := false, narrowed := true }
def RetryRestsUptoSaid : Prop := retryRestsUptoRow.holds Try.pinned (OpenSpec.upto retryRestsSpec)

/-- 'mandolinelaw55.RetryNews', WHERE WHAT IT READS IS OF BULK AT MOST 1048576: true; the input reads as it did. -/
def retryNewsUptoRow : OpenClaim := { program := "ytnkhlnnkjmjfcaa", sum := "7a31be8b1674a432c02d6fa9756db9b01edc3ecea4659f58a79fb4e12559f9e6", func := "mandoline/mandolinelaw55.RetryNews", spec := "retryNews", apart := false, narrowed := true }
def RetryNewsUptoSaid : Prop := retryNewsUptoRow.holds Try.pinned (OpenSpec.upto retryNewsSpec)

/-- 'mandolinelaw55.RetryNil', WHERE WHAT IT READS IS OF BULK AT MOST 1048576: true; the input reads as it did. -/
def retryNilUptoRow : OpenClaim := { program := "ytnkhlnnkjmjfcaa", sum := "7a31be8b1674a432c02d6fa9756db9b01edc3ecea4659f58a79fb4e12559f9e6", func := "mandoline/mandolinelaw55.RetryNil", spec := "retryNil", apart := false, narrowed := true }
def RetryNilUptoSaid : Prop := retryNilUptoRow.holds Try.pinned (OpenSpec.upto retryNilSpec)

/-- 'mandolinelaw55.RetryBlows', WHERE WHAT IT READS IS OF BULK AT MOST 1048576: true; the input reads as it did. -/
def retryBlowsUptoRow : OpenClaim := { program := "ytnkhlnnkjmjfcaa", sum := "7a31be8b1674a432c02d6fa9756db9b01edc3ecea4659f58a79fb4e12559f9e6", func := "mandoline/mandolinelaw55.RetryBlows", spec := "retryBlows", apart := false, narrowed := true }
def RetryBlowsUptoSaid : Prop := retryBlowsUptoRow.holds Try.pinned (OpenSpec.upto retryBlowsSpec)

end Rows
end Go.Proofs.Ytnkhlnnkjmjfcaa
