/-
  DERIVED. GIVEN WITH THE SEED: THE CARDS: each row of YtcepfhnlbnlnhaaGreatDoorRows.lean that lists a variable, with what it lists TIED to the program's text (the seventh form; the later family's looks); each row that meets fmt, with fmt's text TOLD by the authors' own Lean function (tested against real Go, not proved from fmt's source: count such statements apart). THE CARD IS WHAT COUNTS. Prove the row's statement (the work); the ties are given (YtcepfhnlbnlnhaaGreatDoorTie.lean); close each card by the builder's one call (the guide's Derived/Test/ToyasCard.lean, 'card_holds'). Laid BY PROGRAM, IN A SANDBOX (cutbox-door.mjs). By AI agents, Wed Nov 11 2026. No macro, syntax, notation, axiom, sorry.
-/
import Derived.Test.YtcepfhnlbnlnhaaGreatDoorRows
import GoSem.ClaimSeven
namespace Go.Proofs.YtcepfhnlbnlnhaaGreatDoor
namespace Rows

/-- THE TIED CARD OF 'aqueducttop.TopDelivers'. -/
def topDeliversCard : Claim7 := { stood := { row := topDeliversRow, standIns := [], harness := (true, "d648692b71c21957f34a2ae402416025784700052ccde8f3f224de69da251047"), looks := true }, kinds := [], alts := [], laidByText := true, laidKinds := [.data, .pinned], laidTests := true, laidLooks := .later }
def TopDeliversCardSaid : Prop := Claim7.holds Tryz.pinned (.plain (OpenSpec.ofChange topDeliversSpec)) topDeliversCard

/-- THE SECOND FORM's CARD OF 'aqueducttop.TopDelivers'. -/
def topDeliversUptoCard : Claim7 := { stood := { row := topDeliversUptoRow, standIns := [], harness := (true, "d648692b71c21957f34a2ae402416025784700052ccde8f3f224de69da251047"), looks := true }, kinds := [], alts := [], laidByText := true, laidKinds := [.data, .pinned], laidTests := true, laidLooks := .later }
def TopDeliversUptoCardSaid : Prop := Claim7.holds Tryz.pinned (.plain (OpenSpec.upto topDeliversSpec)) topDeliversUptoCard
end Rows
end Go.Proofs.YtcepfhnlbnlnhaaGreatDoor
