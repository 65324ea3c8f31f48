/-
  No cell of these rows narrows 'for every input' (looked for: loops, veiled, ifaces, maps, wideKeys, modest, calm, conditions, laid).
  DERIVED. THE GIVEN ROWS OF THIS SEAT. 7 by the template 'for every input the law returns true; each argument reads behind the call as it read before'; 0 by the template 'total and deterministic' (their statements: YtjeclknahjnhoaaTotals.lean).
  GIVEN WITH THE SEED: the statements are not yours to turn. If you find one false, say at which input.
  Laid BY PROGRAM, IN A SANDBOX (cutbox-rows.mjs): the forced cells as the released guide's own fill.sh prints them over the translation 0a34b55e643e80bc… (all of the seat's roots in one cut). By AI agents, Wed Nov 11 2026. No macro, syntax, notation, axiom, sorry.
-/
import Derived.Test.YtjeclknahjnhoaaChecked
import GoSem.Claim
import GoSem.ClaimJoined
import GoSem.ClaimMapViews
import Derived.JoinedTies
import Derived.KernelRfl
namespace Go.Proofs.Ytjeclknahjnhoaa
/- THE CELL 'sum', in the pinned program and in every row, IS THE sha256 OF THE DUMP (.gsa) THAT YtjeclknahjnhoaaProg.lean LOADS. Nothing in Lean hashes anything: it is a label: what it is worth is what the hold of that sum in a sandbox is worth. -/
noncomputable def Try.pinned : Pinned := { name := "ytjeclknahjnhoaa", sum := "0a34b55e643e80bc79811a7d8b1d4e737eb896576a45f71d14e2bb96aac6db82", checked := Try.checked }
namespace Rows
def none {H : Type} : Left H := { results := [], args := [] }

/-- 'mandolinelaw29.LruPlays': WHATEVER THE INPUT: true; the input reads as it did. -/
def lruPlaysSpec : ChangeSpec := { name := "lruPlays", fn := fun _ => fun
  | [d1, d2, d3] => { results := [.lit (.bool true)], args := [d1, d2, d3] }
  | _ => none }
def lruPlaysRow : OpenClaim := { program := "ytjeclknahjnhoaa", sum := "0a34b55e643e80bc79811a7d8b1d4e737eb896576a45f71d14e2bb96aac6db82", func := "mandoline/mandolinelaw29.LruPlays", spec := "lruPlays", apart := false }
def LruPlaysSaid : Prop := lruPlaysRow.holds Try.pinned (OpenSpec.ofChange lruPlaysSpec)

/-- ITS FALSE NEIGHBOUR: 'it returns false'. Refute it at one input. -/
def lruPlaysWrong : ChangeSpec := { name := "lruPlays", fn := fun _ => fun
  | [d1, d2, d3] => { results := [.lit (.bool false)], args := [d1, d2, d3] }
  | _ => none }
def LruPlaysWrongFalsely : Prop := lruPlaysRow.holds Try.pinned (OpenSpec.ofChange lruPlaysWrong)

/-- 'mandolinelaw29.LruOrder': WHATEVER THE INPUT: true; the input reads as it did. -/
def lruOrderSpec : ChangeSpec := { name := "lruOrder", fn := fun _ => fun
  | [d1, d2] => { results := [.lit (.bool true)], args := [d1, d2] }
  | _ => none }
def lruOrderRow : OpenClaim := { program := "ytjeclknahjnhoaa", sum := "0a34b55e643e80bc79811a7d8b1d4e737eb896576a45f71d14e2bb96aac6db82", func := "mandoline/mandolinelaw29.LruOrder", spec := "lruOrder", apart := false }
def LruOrderSaid : Prop := lruOrderRow.holds Try.pinned (OpenSpec.ofChange lruOrderSpec)

/-- ITS FALSE NEIGHBOUR: 'it returns false'. Refute it at one input. -/
def lruOrderWrong : ChangeSpec := { name := "lruOrder", fn := fun _ => fun
  | [d1, d2] => { results := [.lit (.bool false)], args := [d1, d2] }
  | _ => none }
def LruOrderWrongFalsely : Prop := lruOrderRow.holds Try.pinned (OpenSpec.ofChange lruOrderWrong)

/-- 'mandolinelaw29.LruBytes': WHATEVER THE INPUT: true; the input reads as it did. -/
def lruBytesSpec : ChangeSpec := { name := "lruBytes", fn := fun _ => fun
  | [d1, d2] => { results := [.lit (.bool true)], args := [d1, d2] }
  | _ => none }
def lruBytesRow : OpenClaim := { program := "ytjeclknahjnhoaa", sum := "0a34b55e643e80bc79811a7d8b1d4e737eb896576a45f71d14e2bb96aac6db82", func := "mandoline/mandolinelaw29.LruBytes", spec := "lruBytes", apart := false }
def LruBytesSaid : Prop := lruBytesRow.holds Try.pinned (OpenSpec.ofChange lruBytesSpec)

/-- ITS FALSE NEIGHBOUR: 'it returns false'. Refute it at one input. -/
def lruBytesWrong : ChangeSpec := { name := "lruBytes", fn := fun _ => fun
  | [d1, d2] => { results := [.lit (.bool false)], args := [d1, d2] }
  | _ => none }
def LruBytesWrongFalsely : Prop := lruBytesRow.holds Try.pinned (OpenSpec.ofChange lruBytesWrong)

/-- 'mandolinelaw29.LruKept': WHATEVER THE INPUT: true; the input reads as it did. -/
def lruKeptSpec : ChangeSpec := { name := "lruKept", fn := fun _ => fun
  | [d1, d2, d3] => { results := [.lit (.bool true)], args := [d1, d2, d3] }
  | _ => none }
def lruKeptRow : OpenClaim := { program := "ytjeclknahjnhoaa", sum := "0a34b55e643e80bc79811a7d8b1d4e737eb896576a45f71d14e2bb96aac6db82", func := "mandoline/mandolinelaw29.LruKept", spec := "lruKept", apart := false }
def LruKeptSaid : Prop := lruKeptRow.holds Try.pinned (OpenSpec.ofChange lruKeptSpec)

/-- ITS FALSE NEIGHBOUR: 'it returns false'. Refute it at one input. -/
def lruKeptWrong : ChangeSpec := { name := "lruKept", fn := fun _ => fun
  | [d1, d2, d3] => { results := [.lit (.bool false)], args := [d1, d2, d3] }
  | _ => none }
def LruKeptWrongFalsely : Prop := lruKeptRow.holds Try.pinned (OpenSpec.ofChange lruKeptWrong)

/-- 'mandolinelaw29.LruFlood': WHATEVER THE INPUT: true; the input reads as it did. -/
def lruFloodSpec : ChangeSpec := { name := "lruFlood", fn := fun _ => fun
  | [d1, d2, d3] => { results := [.lit (.bool true)], args := [d1, d2, d3] }
  | _ => none }
def lruFloodRow : OpenClaim := { program := "ytjeclknahjnhoaa", sum := "0a34b55e643e80bc79811a7d8b1d4e737eb896576a45f71d14e2bb96aac6db82", func := "mandoline/mandolinelaw29.LruFlood", spec := "lruFlood", apart := false }
def LruFloodSaid : Prop := lruFloodRow.holds Try.pinned (OpenSpec.ofChange lruFloodSpec)

/-- ITS FALSE NEIGHBOUR: 'it returns false'. Refute it at one input. -/
def lruFloodWrong : ChangeSpec := { name := "lruFlood", fn := fun _ => fun
  | [d1, d2, d3] => { results := [.lit (.bool false)], args := [d1, d2, d3] }
  | _ => none }
def LruFloodWrongFalsely : Prop := lruFloodRow.holds Try.pinned (OpenSpec.ofChange lruFloodWrong)

/-- 'mandolinelaw29.LruDrops': WHATEVER THE INPUT: true; the input reads as it did. -/
def lruDropsSpec : ChangeSpec := { name := "lruDrops", fn := fun _ => fun
  | [d1, d2, d3] => { results := [.lit (.bool true)], args := [d1, d2, d3] }
  | _ => none }
def lruDropsRow : OpenClaim := { program := "ytjeclknahjnhoaa", sum := "0a34b55e643e80bc79811a7d8b1d4e737eb896576a45f71d14e2bb96aac6db82", func := "mandoline/mandolinelaw29.LruDrops", spec := "lruDrops", apart := false }
def LruDropsSaid : Prop := lruDropsRow.holds Try.pinned (OpenSpec.ofChange lruDropsSpec)

/-- ITS FALSE NEIGHBOUR: 'it returns false'. Refute it at one input. -/
def lruDropsWrong : ChangeSpec := { name := "lruDrops", fn := fun _ => fun
  | [d1, d2, d3] => { results := [.lit (.bool false)], args := [d1, d2, d3] }
  | _ => none }
def LruDropsWrongFalsely : Prop := lruDropsRow.holds Try.pinned (OpenSpec.ofChange lruDropsWrong)

/-- 'mandolinelaw29.LruRefused': WHATEVER THE INPUT: true; the input reads as it did. -/
def lruRefusedSpec : ChangeSpec := { name := "lruRefused", fn := fun _ => fun
  | [d1, d2, d3] => { results := [.lit (.bool true)], args := [d1, d2, d3] }
  | _ => none }
def lruRefusedRow : OpenClaim := { program := "ytjeclknahjnhoaa", sum := "0a34b55e643e80bc79811a7d8b1d4e737eb896576a45f71d14e2bb96aac6db82", func := "mandoline/mandolinelaw29.LruRefused", spec := "lruRefused", apart := false }
def LruRefusedSaid : Prop := lruRefusedRow.holds Try.pinned (OpenSpec.ofChange lruRefusedSpec)

/-- ITS FALSE NEIGHBOUR: 'it returns false'. Refute it at one input. -/
def lruRefusedWrong : ChangeSpec := { name := "lruRefused", fn := fun _ => fun
  | [d1, d2, d3] => { results := [.lit (.bool false)], args := [d1, d2, d3] }
  | _ => none }
def LruRefusedWrongFalsely : Prop := lruRefusedRow.holds Try.pinned (OpenSpec.ofChange lruRefusedWrong)

/- THE SECOND FORM. 'bulk': how many values and letters a reading holds, each counted each time it is reached (what is shared counts as often as it is met; a slice's spare places count too). A statement '..UptoSaid' is the law's where the arguments, and the package variables that the reading takes, are together of bulk at most 1048576: NARROWER than '..Said'. Prove '..Said' where nothing that the law and all that it calls make is longer than what came in: it says more and counts as full. Else prove '..UptoSaid'. A law counts once. -/
mutual
def uptoBulk {H : Type} : DataW H → Nat
  | .lit (.string bytes) => bytes.length + 1
  | .lit _ => 1
  | .nil => 1
  | .ptr d => uptoBulk d + 1
  | .slice elems spare => uptoBulkAll elems + uptoBulkAll spare + 1
  | .agg parts => uptoBulkAll parts + 1
  | .iface _ d => uptoBulk d + 1
  | .map entries => uptoBulkEntries entries + 1
  | .held _ => 1
def uptoBulkAll {H : Type} : List (DataW H) → Nat
  | [] => 0
  | d :: r => uptoBulk d + uptoBulkAll r
def uptoBulkEntries {H : Type} : List (Lit × DataW H) → Nat
  | [] => 0
  | x :: r => uptoBulkEntry x + uptoBulkEntries r
def uptoBulkEntry {H : Type} : Lit × DataW H → Nat
  | (.string bytes, d) => bytes.length + uptoBulk d + 1
  | (_, d) => uptoBulk d + 1
 end
def uptoSmall : (H : Type) → List (DataW H) → Bool := fun _ ds => decide (uptoBulkAll ds ≤ 1048576)
def OpenSpec.upto (s : _root_.Go.ChangeSpec) : _root_.Go.OpenSpec := { _root_.Go.OpenSpec.ofChange s with cond := some uptoSmall }

/-- 'mandolinelaw29.LruPlays', WHERE WHAT IT READS IS OF BULK AT MOST 1048576: true; the input reads as it did. -/
def lruPlaysUptoRow : OpenClaim := { program := "ytjeclknahjnhoaa", sum := "0a34b55e643e80bc79811a7d8b1d4e737eb896576a45f71d14e2bb96aac6db82", func := "mandoline/mandolinelaw29.LruPlays", spec := "lruPlays", apart := false, narrowed := true }
def LruPlaysUptoSaid : Prop := lruPlaysUptoRow.holds Try.pinned (OpenSpec.upto lruPlaysSpec)

/-- 'mandolinelaw29.LruOrder', WHERE WHAT IT READS IS OF BULK AT MOST 1048576: true; the input reads as it did. -/
def lruOrderUptoRow : OpenClaim := { program := "ytjeclknahjnhoaa", sum := "0a34b55e643e80bc79811a7d8b1d4e737eb896576a45f71d14e2bb96aac6db82", func := "mandoline/mandolinelaw29.LruOrder", spec := "lruOrder", apart := false, narrowed := true }
def LruOrderUptoSaid : Prop := lruOrderUptoRow.holds Try.pinned (OpenSpec.upto lruOrderSpec)

/-- 'mandolinelaw29.LruBytes', WHERE WHAT IT READS IS OF BULK AT MOST 1048576: true; the input reads as it did. -/
def lruBytesUptoRow : OpenClaim := { program := "ytjeclknahjnhoaa", sum := "0a34b55e643e80bc79811a7d8b1d4e737eb896576a45f71d14e2bb96aac6db82", func := "mandoline/mandolinelaw29.LruBytes", spec := "lruBytes", apart := false, narrowed := true }
def LruBytesUptoSaid : Prop := lruBytesUptoRow.holds Try.pinned (OpenSpec.upto lruBytesSpec)

/-- 'mandolinelaw29.LruKept', WHERE WHAT IT READS IS OF BULK AT MOST 1048576: true; the input reads as it did. -/
def lruKeptUptoRow : OpenClaim := { program := "ytjeclknahjnhoaa", sum := "0a34b55e643e80bc79811a7d8b1d4e737eb896576a45f71d14e2bb96aac6db82", func := "mandoline/mandolinelaw29.LruKept", spec := "lruKept", apart := false, narrowed := true }
def LruKeptUptoSaid : Prop := lruKeptUptoRow.holds Try.pinned (OpenSpec.upto lruKeptSpec)

/-- 'mandolinelaw29.LruFlood', WHERE WHAT IT READS IS OF BULK AT MOST 1048576: true; the input reads as it did. -/
def lruFloodUptoRow : OpenClaim := { program := "ytjeclknahjnhoaa", sum := "0a34b55e643e80bc79811a7d8b1d4e737eb896576a45f71d14e2bb96aac6db82", func := "mandoline/mandolinelaw29.LruFlood", spec := "lruFlood", apart := false, narrowed := true }
def LruFloodUptoSaid : Prop := lruFloodUptoRow.holds Try.pinned (OpenSpec.upto lruFloodSpec)

/-- 'mandolinelaw29.LruDrops', WHERE WHAT IT READS IS OF BULK AT MOST 1048576: true; the input reads as it did. -/
def lruDropsUptoRow : OpenClaim := { program := "ytjeclknahjnhoaa", sum := "0a34b55e643e80bc79811a7d8b1d4e737eb896576a45f71d14e2bb96aac6db82", func := "mandoline/mandolinelaw29.LruDrops", spec := "lruDrops", apart := false, narrowed := true }
def LruDropsUptoSaid : Prop := lruDropsUptoRow.holds Try.pinned (OpenSpec.upto lruDropsSpec)

/-- 'mandolinelaw29.LruRefused', WHERE WHAT IT READS IS OF BULK AT MOST 1048576: true; the input reads as it did. -/
def lruRefusedUptoRow : OpenClaim := { program := "ytjeclknahjnhoaa", sum := "0a34b55e643e80bc79811a7d8b1d4e737eb896576a45f71d14e2bb96aac6db82", func := "mandoline/mandolinelaw29.LruRefused", spec := "lruRefused", apart := false, narrowed := true }
def LruRefusedUptoSaid : Prop := lruRefusedUptoRow.holds Try.pinned (OpenSpec.upto lruRefusedSpec)

end Rows
end Go.Proofs.Ytjeclknahjnhoaa
