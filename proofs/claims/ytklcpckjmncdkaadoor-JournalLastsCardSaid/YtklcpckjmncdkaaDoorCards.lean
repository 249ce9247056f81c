/-
  DERIVED. GIVEN WITH THE SEED: THE CARDS: each row of YtklcpckjmncdkaaDoorRows.lean that lists a variable, with what it lists TIED to the program's text (the seventh form; the later family's looks); each row that meets fmt, with fmt's text TOLD by the authors' own Lean function (tested against real Go, not proved from fmt's source: count such statements apart). THE CARD IS WHAT COUNTS. Prove the row's statement (the work); the ties are given (YtklcpckjmncdkaaDoorTie.lean); close each card by the builder's one call (the guide's Derived/Test/ToyasCard.lean, 'card_holds'). Laid BY PROGRAM, IN A SANDBOX (cutbox-door.mjs). By AI agents, Wed Nov 11 2026. No macro, syntax, notation, axiom, sorry.
-/
import Derived.Test.YtklcpckjmncdkaaDoorRows
import GoSem.ClaimSeven
namespace Go.Proofs.YtklcpckjmncdkaaDoor
namespace Rows

/-- THE TIED CARD OF 'aqueductlaw12.JournalAny'. -/
def journalAnyCard : Claim7 := { stood := { row := journalAnyRow, standIns := [], harness := (true, "9a5cf28f33177902dae8521531ee9c7354ef7df6f8120b70339122149f73a159"), looks := true }, kinds := [], alts := [], laidByText := true, laidKinds := [.handle], laidTests := true, laidLooks := .later }
def JournalAnyCardSaid : Prop := Claim7.holds Tryd.pinned (.plain (OpenSpec.ofChange journalAnySpec)) journalAnyCard

/-- THE TIED CARD OF 'aqueductlaw12.JournalBits'. -/
def journalBitsCard : Claim7 := { stood := { row := journalBitsRow, standIns := [], harness := (true, "9a5cf28f33177902dae8521531ee9c7354ef7df6f8120b70339122149f73a159"), looks := true }, kinds := [], alts := [], laidByText := true, laidKinds := [.handle], laidTests := true, laidLooks := .later }
def JournalBitsCardSaid : Prop := Claim7.holds Tryd.pinned (.plain (OpenSpec.ofChange journalBitsSpec)) journalBitsCard

/-- THE TIED CARD OF 'aqueductlaw12.JournalLasts'. -/
def journalLastsCard : Claim7 := { stood := { row := journalLastsRow, standIns := [], harness := (true, "9a5cf28f33177902dae8521531ee9c7354ef7df6f8120b70339122149f73a159"), looks := true }, kinds := [], alts := [], laidByText := true, laidKinds := [.handle], laidTests := true, laidLooks := .later }
def JournalLastsCardSaid : Prop := Claim7.holds Tryd.pinned (.plain (OpenSpec.ofChange journalLastsSpec)) journalLastsCard

/-- THE TIED CARD OF 'aqueductlaw12.JournalNil'. -/
def journalNilCard : Claim7 := { stood := { row := journalNilRow, standIns := [], harness := (true, "9a5cf28f33177902dae8521531ee9c7354ef7df6f8120b70339122149f73a159"), looks := true }, kinds := [], alts := [], laidByText := true, laidKinds := [.handle], laidTests := true, laidLooks := .later }
def JournalNilCardSaid : Prop := Claim7.holds Tryd.pinned (.plain (OpenSpec.ofChange journalNilSpec)) journalNilCard

/-- THE TIED CARD OF 'aqueductlaw12.JournalCompacts'. -/
def journalCompactsCard : Claim7 := { stood := { row := journalCompactsRow, standIns := [], harness := (true, "9a5cf28f33177902dae8521531ee9c7354ef7df6f8120b70339122149f73a159"), looks := true }, kinds := [], alts := [], laidByText := true, laidKinds := [.handle], laidTests := true, laidLooks := .later }
def JournalCompactsCardSaid : Prop := Claim7.holds Tryd.pinned (.plain (OpenSpec.ofChange journalCompactsSpec)) journalCompactsCard

/-- THE SECOND FORM's CARD OF 'aqueductlaw12.JournalAny'. -/
def journalAnyUptoCard : Claim7 := { stood := { row := journalAnyUptoRow, standIns := [], harness := (true, "9a5cf28f33177902dae8521531ee9c7354ef7df6f8120b70339122149f73a159"), looks := true }, kinds := [], alts := [], laidByText := true, laidKinds := [.handle], laidTests := true, laidLooks := .later }
def JournalAnyUptoCardSaid : Prop := Claim7.holds Tryd.pinned (.plain (OpenSpec.upto journalAnySpec)) journalAnyUptoCard

/-- THE SECOND FORM's CARD OF 'aqueductlaw12.JournalBits'. -/
def journalBitsUptoCard : Claim7 := { stood := { row := journalBitsUptoRow, standIns := [], harness := (true, "9a5cf28f33177902dae8521531ee9c7354ef7df6f8120b70339122149f73a159"), looks := true }, kinds := [], alts := [], laidByText := true, laidKinds := [.handle], laidTests := true, laidLooks := .later }
def JournalBitsUptoCardSaid : Prop := Claim7.holds Tryd.pinned (.plain (OpenSpec.upto journalBitsSpec)) journalBitsUptoCard

/-- THE SECOND FORM's CARD OF 'aqueductlaw12.JournalLasts'. -/
def journalLastsUptoCard : Claim7 := { stood := { row := journalLastsUptoRow, standIns := [], harness := (true, "9a5cf28f33177902dae8521531ee9c7354ef7df6f8120b70339122149f73a159"), looks := true }, kinds := [], alts := [], laidByText := true, laidKinds := [.handle], laidTests := true, laidLooks := .later }
def JournalLastsUptoCardSaid : Prop := Claim7.holds Tryd.pinned (.plain (OpenSpec.upto journalLastsSpec)) journalLastsUptoCard

/-- THE SECOND FORM's CARD OF 'aqueductlaw12.JournalNil'. -/
def journalNilUptoCard : Claim7 := { stood := { row := journalNilUptoRow, standIns := [], harness := (true, "9a5cf28f33177902dae8521531ee9c7354ef7df6f8120b70339122149f73a159"), looks := true }, kinds := [], alts := [], laidByText := true, laidKinds := [.handle], laidTests := true, laidLooks := .later }
def JournalNilUptoCardSaid : Prop := Claim7.holds Tryd.pinned (.plain (OpenSpec.upto journalNilSpec)) journalNilUptoCard

/-- THE SECOND FORM's CARD OF 'aqueductlaw12.JournalCompacts'. -/
def journalCompactsUptoCard : Claim7 := { stood := { row := journalCompactsUptoRow, standIns := [], harness := (true, "9a5cf28f33177902dae8521531ee9c7354ef7df6f8120b70339122149f73a159"), looks := true }, kinds := [], alts := [], laidByText := true, laidKinds := [.handle], laidTests := true, laidLooks := .later }
def JournalCompactsUptoCardSaid : Prop := Claim7.holds Tryd.pinned (.plain (OpenSpec.upto journalCompactsSpec)) journalCompactsUptoCard
end Rows
end Go.Proofs.YtklcpckjmncdkaaDoor
