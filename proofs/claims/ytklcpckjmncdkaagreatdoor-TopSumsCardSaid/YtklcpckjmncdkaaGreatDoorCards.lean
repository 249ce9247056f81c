/-
  DERIVED. GIVEN WITH THE SEED: THE CARDS: each row of YtklcpckjmncdkaaGreatDoorRows.lean that lists a variable, with what it lists TIED to the program's text (the seventh form; the later family's looks); each row that meets fmt, with fmt's text TOLD by the authors' own Lean function (tested against real Go, not proved from fmt's source: count such statements apart). THE CARD IS WHAT COUNTS. Prove the row's statement (the work); the ties are given (YtklcpckjmncdkaaGreatDoorTie.lean); close each card by the builder's one call (the guide's Derived/Test/ToyasCard.lean, 'card_holds'). Laid BY PROGRAM, IN A SANDBOX (cutbox-door.mjs). By AI agents, Wed Nov 11 2026. No macro, syntax, notation, axiom, sorry.
-/
import Derived.Test.YtklcpckjmncdkaaGreatDoorRows
import GoSem.ClaimSeven
namespace Go.Proofs.YtklcpckjmncdkaaGreatDoor
namespace Rows

/-- THE TIED CARD OF 'aqueducttop.TopSums'. -/
def topSumsCard : Claim7 := { stood := { row := topSumsRow, standIns := [], harness := (true, "9a36b82666d02a2a358526674b9835adce588809a12ac4d63a6376a0fd7028c3"), looks := true }, kinds := [], alts := [], laidByText := true, laidKinds := [.data, .handle, .pinned], laidTests := true, laidLooks := .later }
def TopSumsCardSaid : Prop := Claim7.holds Tryz.pinned (.plain (OpenSpec.ofChange topSumsSpec)) topSumsCard

/-- THE TIED CARD OF 'aqueductlaw12.JournalPlays'. -/
def journalPlaysCard : Claim7 := { stood := { row := journalPlaysRow, standIns := [], harness := (true, "9a36b82666d02a2a358526674b9835adce588809a12ac4d63a6376a0fd7028c3"), looks := true }, kinds := [], alts := [], laidByText := true, laidKinds := [.handle], laidTests := true, laidLooks := .later }
def JournalPlaysCardSaid : Prop := Claim7.holds Tryz.pinned (.plain (OpenSpec.ofChange journalPlaysSpec)) journalPlaysCard

/-- THE SECOND FORM's CARD OF 'aqueducttop.TopSums'. -/
def topSumsUptoCard : Claim7 := { stood := { row := topSumsUptoRow, standIns := [], harness := (true, "9a36b82666d02a2a358526674b9835adce588809a12ac4d63a6376a0fd7028c3"), looks := true }, kinds := [], alts := [], laidByText := true, laidKinds := [.data, .handle, .pinned], laidTests := true, laidLooks := .later }
def TopSumsUptoCardSaid : Prop := Claim7.holds Tryz.pinned (.plain (OpenSpec.upto topSumsSpec)) topSumsUptoCard

/-- THE SECOND FORM's CARD OF 'aqueductlaw12.JournalPlays'. -/
def journalPlaysUptoCard : Claim7 := { stood := { row := journalPlaysUptoRow, standIns := [], harness := (true, "9a36b82666d02a2a358526674b9835adce588809a12ac4d63a6376a0fd7028c3"), looks := true }, kinds := [], alts := [], laidByText := true, laidKinds := [.handle], laidTests := true, laidLooks := .later }
def JournalPlaysUptoCardSaid : Prop := Claim7.holds Tryz.pinned (.plain (OpenSpec.upto journalPlaysSpec)) journalPlaysUptoCard
end Rows
end Go.Proofs.YtklcpckjmncdkaaGreatDoor
