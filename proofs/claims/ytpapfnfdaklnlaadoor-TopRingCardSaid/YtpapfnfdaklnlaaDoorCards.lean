/-
  DERIVED. GIVEN WITH THE SEED: THE CARDS: each row of YtpapfnfdaklnlaaDoorRows.lean that lists a variable, with what it lists TIED to the program's text (the seventh form; the later family's looks); each row that meets fmt, with fmt's text TOLD by the authors' own Lean function (tested against real Go, not proved from fmt's source: count such statements apart). THE CARD IS WHAT COUNTS. Prove the row's statement (the work); the ties are given (YtpapfnfdaklnlaaDoorTie.lean); close each card by the builder's one call (the guide's Derived/Test/ToyasCard.lean, 'card_holds'). Laid BY PROGRAM, IN A SANDBOX (cutbox-door.mjs). By AI agents, Wed Nov 11 2026. No macro, syntax, notation, axiom, sorry.
-/
import Derived.Test.YtpapfnfdaklnlaaDoorRows
import GoSem.ClaimSeven
namespace Go.Proofs.YtpapfnfdaklnlaaDoor
namespace Rows

/-- THE TIED CARD OF 'mandolinetop.TopSketch'. -/
def topSketchCard : Claim7 := { stood := { row := topSketchRow, standIns := [], harness := (true, "dcd4acc377893f638080b7187bf73cf76e0d197063ef8c258832d552635ade0c"), looks := false }, kinds := [], alts := [], laidByText := true, laidKinds := [.data, .data, .data], laidTests := true, laidLooks := .later }
def TopSketchCardSaid : Prop := Claim7.holds Tryd.pinned (.plain (OpenSpec.ofChange topSketchSpec)) topSketchCard

/-- THE TIED CARD OF 'mandolinetop.TopRing'. -/
def topRingCard : Claim7 := { stood := { row := topRingRow, standIns := [], harness := (true, "dcd4acc377893f638080b7187bf73cf76e0d197063ef8c258832d552635ade0c"), looks := false }, kinds := [], alts := [], laidByText := true, laidKinds := [.data, .data, .data], laidTests := true, laidLooks := .later }
def TopRingCardSaid : Prop := Claim7.holds Tryd.pinned (.plain (OpenSpec.ofChange topRingSpec)) topRingCard

/-- THE SECOND FORM's CARD OF 'mandolinetop.TopSketch'. -/
def topSketchUptoCard : Claim7 := { stood := { row := topSketchUptoRow, standIns := [], harness := (true, "dcd4acc377893f638080b7187bf73cf76e0d197063ef8c258832d552635ade0c"), looks := false }, kinds := [], alts := [], laidByText := true, laidKinds := [.data, .data, .data], laidTests := true, laidLooks := .later }
def TopSketchUptoCardSaid : Prop := Claim7.holds Tryd.pinned (.plain (OpenSpec.upto topSketchSpec)) topSketchUptoCard

/-- THE SECOND FORM's CARD OF 'mandolinetop.TopRing'. -/
def topRingUptoCard : Claim7 := { stood := { row := topRingUptoRow, standIns := [], harness := (true, "dcd4acc377893f638080b7187bf73cf76e0d197063ef8c258832d552635ade0c"), looks := false }, kinds := [], alts := [], laidByText := true, laidKinds := [.data, .data, .data], laidTests := true, laidLooks := .later }
def TopRingUptoCardSaid : Prop := Claim7.holds Tryd.pinned (.plain (OpenSpec.upto topRingSpec)) topRingUptoCard
end Rows
end Go.Proofs.YtpapfnfdaklnlaaDoor
