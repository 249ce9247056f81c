/-
  DERIVED. GIVEN WITH THE SEED: THE CARDS: each row of YtcepfhnlbnlnhaaDoorRows.lean that lists a variable, with what it lists TIED to the program's text (the seventh form; the later family's looks); each row that meets fmt, with fmt's text TOLD by the authors' own Lean function (tested against real Go, not proved from fmt's source: count such statements apart). THE CARD IS WHAT COUNTS. Prove the row's statement (the work); the ties are given (YtcepfhnlbnlnhaaDoorTie.lean); close each card by the builder's one call (the guide's Derived/Test/ToyasCard.lean, 'card_holds'). Laid BY PROGRAM, IN A SANDBOX (cutbox-door.mjs). By AI agents, Wed Nov 11 2026. No macro, syntax, notation, axiom, sorry.
-/
import Derived.Test.YtcepfhnlbnlnhaaDoorRows
import GoSem.ClaimSeven
namespace Go.Proofs.YtcepfhnlbnlnhaaDoor
namespace Rows

/-- THE TIED CARD OF 'aqueducttop.TopWire'. -/
def topWireCard : Claim7 := { stood := { row := topWireRow, standIns := [], harness := (true, "e46b15bda89a6d24485b0cffaef4bb4a85aed18323c43420ad7c2572ab389f74"), looks := true }, kinds := [], alts := [], laidByText := true, laidKinds := [.data, .pinned], laidTests := true, laidLooks := .later }
def TopWireCardSaid : Prop := Claim7.holds Tryd.pinned (.plain (OpenSpec.ofChange topWireSpec)) topWireCard

/-- THE SECOND FORM's CARD OF 'aqueducttop.TopWire'. -/
def topWireUptoCard : Claim7 := { stood := { row := topWireUptoRow, standIns := [], harness := (true, "e46b15bda89a6d24485b0cffaef4bb4a85aed18323c43420ad7c2572ab389f74"), looks := true }, kinds := [], alts := [], laidByText := true, laidKinds := [.data, .pinned], laidTests := true, laidLooks := .later }
def TopWireUptoCardSaid : Prop := Claim7.holds Tryd.pinned (.plain (OpenSpec.upto topWireSpec)) topWireUptoCard
end Rows
end Go.Proofs.YtcepfhnlbnlnhaaDoor
