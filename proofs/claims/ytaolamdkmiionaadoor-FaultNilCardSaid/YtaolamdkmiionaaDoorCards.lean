/-
  DERIVED. GIVEN WITH THE SEED: THE CARDS: each row of YtaolamdkmiionaaDoorRows.lean that lists a variable, with what it lists TIED to the program's text (the seventh form; the later family's looks); each row that meets fmt, with fmt's text TOLD by the authors' own Lean function (tested against real Go, not proved from fmt's source: count such statements apart). THE CARD IS WHAT COUNTS. Prove the row's statement (the work); the ties are given (YtaolamdkmiionaaDoorTie.lean); close each card by the builder's one call (the guide's Derived/Test/ToyasCard.lean, 'card_holds'). Laid BY PROGRAM, IN A SANDBOX (cutbox-door.mjs). By AI agents, Wed Nov 11 2026. No macro, syntax, notation, axiom, sorry.
-/
import Derived.Test.YtaolamdkmiionaaDoorRows
import GoSem.ClaimSeven
namespace Go.Proofs.YtaolamdkmiionaaDoor
namespace Rows

/-- THE TIED CARD OF 'aqueductlaw03.FaultNil'. -/
def faultNilCard : Claim7 := { stood := { row := faultNilRow, standIns := [], harness := (true, "dbfd8ea01e360bc5c18636dde32cd4e04fee0421eac57d22eaea1c49354bd000"), looks := true }, kinds := [], alts := [], laidByText := true, laidKinds := [.data, .data, .data, .handle], laidTests := true, laidLooks := .later }
def FaultNilCardSaid : Prop := Claim7.holds Tryd.pinned (.plain (OpenSpec.ofChange faultNilSpec)) faultNilCard

/-- THE SECOND FORM's CARD OF 'aqueductlaw03.FaultNil'. -/
def faultNilUptoCard : Claim7 := { stood := { row := faultNilUptoRow, standIns := [], harness := (true, "dbfd8ea01e360bc5c18636dde32cd4e04fee0421eac57d22eaea1c49354bd000"), looks := true }, kinds := [], alts := [], laidByText := true, laidKinds := [.data, .data, .data, .handle], laidTests := true, laidLooks := .later }
def FaultNilUptoCardSaid : Prop := Claim7.holds Tryd.pinned (.plain (OpenSpec.upto faultNilSpec)) faultNilUptoCard
end Rows
end Go.Proofs.YtaolamdkmiionaaDoor
