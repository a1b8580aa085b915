/-
  DERIVED. GIVEN WITH THE SEED: THE CARDS: each row of YtjkffjngamagkaaDoorRows.lean that lists a variable, with what it lists TIED to the program's text (the seventh form; the later family's looks); each row that meets fmt, with fmt's text TOLD by the authors' own Lean function (tested against real Go, not proved from fmt's source: count such statements apart). THE CARD IS WHAT COUNTS. Prove the row's statement (the work); the ties are given (YtjkffjngamagkaaDoorTie.lean); close each card by the builder's one call (the guide's Derived/Test/ToyasCard.lean, 'card_holds'). Laid BY PROGRAM, IN A SANDBOX (cutbox-door.mjs). By AI agents, Wed Nov 11 2026. No macro, syntax, notation, axiom, sorry.
-/
import Derived.Test.YtjkffjngamagkaaDoorRows
import GoSem.ClaimSeven
namespace Go.Proofs.YtjkffjngamagkaaDoor
namespace Rows

/-- THE TIED CARD OF 'armillarylaw12.NoteUnpacks'. -/
def noteUnpacksCard : Claim7 := { stood := { row := noteUnpacksRow, standIns := [], harness := (true, "c9444a58891271c30f5fc46272ba840758a6b250b1adcf0594c1096b5bcdd1cf"), looks := false }, kinds := [], alts := [], laidByText := true, laidKinds := [.data, .data], laidTests := true, laidLooks := .later }
def NoteUnpacksCardSaid : Prop := Claim7.holds Tryd.pinned (.plain (OpenSpec.ofChange noteUnpacksSpec)) noteUnpacksCard

/-- THE TIED CARD OF 'armillarylaw12.NoteBodies'. -/
def noteBodiesCard : Claim7 := { stood := { row := noteBodiesRow, standIns := [], harness := (true, "c9444a58891271c30f5fc46272ba840758a6b250b1adcf0594c1096b5bcdd1cf"), looks := false }, kinds := [], alts := [], laidByText := true, laidKinds := [.data, .data], laidTests := true, laidLooks := .later }
def NoteBodiesCardSaid : Prop := Claim7.holds Tryd.pinned (.plain (OpenSpec.ofChange noteBodiesSpec)) noteBodiesCard

/-- THE TIED CARD OF 'armillarylaw12.NoteTurned'. -/
def noteTurnedCard : Claim7 := { stood := { row := noteTurnedRow, standIns := [], harness := (true, "c9444a58891271c30f5fc46272ba840758a6b250b1adcf0594c1096b5bcdd1cf"), looks := false }, kinds := [], alts := [], laidByText := true, laidKinds := [.data, .data], laidTests := true, laidLooks := .later }
def NoteTurnedCardSaid : Prop := Claim7.holds Tryd.pinned (.plain (OpenSpec.ofChange noteTurnedSpec)) noteTurnedCard

/-- THE TIED CARD OF 'armillarylaw12.NoteCuts'. -/
def noteCutsCard : Claim7 := { stood := { row := noteCutsRow, standIns := [], harness := (true, "c9444a58891271c30f5fc46272ba840758a6b250b1adcf0594c1096b5bcdd1cf"), looks := false }, kinds := [], alts := [], laidByText := true, laidKinds := [.data, .data], laidTests := true, laidLooks := .later }
def NoteCutsCardSaid : Prop := Claim7.holds Tryd.pinned (.plain (OpenSpec.ofChange noteCutsSpec)) noteCutsCard

/-- THE TIED CARD OF 'armillarylaw12.NotePacks'. -/
def notePacksCard : Claim7 := { stood := { row := notePacksRow, standIns := [], harness := (true, "c9444a58891271c30f5fc46272ba840758a6b250b1adcf0594c1096b5bcdd1cf"), looks := false }, kinds := [], alts := [], laidByText := true, laidKinds := [.data, .data], laidTests := true, laidLooks := .later }
def NotePacksCardSaid : Prop := Claim7.holds Tryd.pinned (.plain (OpenSpec.ofChange notePacksSpec)) notePacksCard

/-- THE TIED CARD OF 'armillarylaw19.CallerMost'. -/
def callerMostCard : Claim7 := { stood := { row := callerMostRow, standIns := [], harness := (true, "c9444a58891271c30f5fc46272ba840758a6b250b1adcf0594c1096b5bcdd1cf"), looks := false }, kinds := [], alts := [], laidByText := true, laidKinds := [.data, .data], laidTests := true, laidLooks := .later }
def CallerMostCardSaid : Prop := Claim7.holds Tryd.pinned (.plain (OpenSpec.ofChange callerMostSpec)) callerMostCard

/-- THE TIED CARD OF 'armillarylaw19.CallerPlays'. -/
def callerPlaysCard : Claim7 := { stood := { row := callerPlaysRow, standIns := [], harness := (true, "c9444a58891271c30f5fc46272ba840758a6b250b1adcf0594c1096b5bcdd1cf"), looks := false }, kinds := [], alts := [], laidByText := true, laidKinds := [.data, .data], laidTests := true, laidLooks := .later }
def CallerPlaysCardSaid : Prop := Claim7.holds Tryd.pinned (.plain (OpenSpec.ofChange callerPlaysSpec)) callerPlaysCard

/-- THE TIED CARD OF 'armillarylaw19.CallerStays'. -/
def callerStaysCard : Claim7 := { stood := { row := callerStaysRow, standIns := [], harness := (true, "c9444a58891271c30f5fc46272ba840758a6b250b1adcf0594c1096b5bcdd1cf"), looks := false }, kinds := [], alts := [], laidByText := true, laidKinds := [.data, .data], laidTests := true, laidLooks := .later }
def CallerStaysCardSaid : Prop := Claim7.holds Tryd.pinned (.plain (OpenSpec.ofChange callerStaysSpec)) callerStaysCard

/-- THE TIED CARD OF 'armillarylaw19.CallerDeaf'. -/
def callerDeafCard : Claim7 := { stood := { row := callerDeafRow, standIns := [], harness := (true, "c9444a58891271c30f5fc46272ba840758a6b250b1adcf0594c1096b5bcdd1cf"), looks := false }, kinds := [], alts := [], laidByText := true, laidKinds := [.data, .data], laidTests := true, laidLooks := .later }
def CallerDeafCardSaid : Prop := Claim7.holds Tryd.pinned (.plain (OpenSpec.ofChange callerDeafSpec)) callerDeafCard

/-- THE SECOND FORM's CARD OF 'armillarylaw12.NoteUnpacks'. -/
def noteUnpacksUptoCard : Claim7 := { stood := { row := noteUnpacksUptoRow, standIns := [], harness := (true, "c9444a58891271c30f5fc46272ba840758a6b250b1adcf0594c1096b5bcdd1cf"), looks := false }, kinds := [], alts := [], laidByText := true, laidKinds := [.data, .data], laidTests := true, laidLooks := .later }
def NoteUnpacksUptoCardSaid : Prop := Claim7.holds Tryd.pinned (.plain (OpenSpec.upto noteUnpacksSpec)) noteUnpacksUptoCard

/-- THE SECOND FORM's CARD OF 'armillarylaw12.NoteBodies'. -/
def noteBodiesUptoCard : Claim7 := { stood := { row := noteBodiesUptoRow, standIns := [], harness := (true, "c9444a58891271c30f5fc46272ba840758a6b250b1adcf0594c1096b5bcdd1cf"), looks := false }, kinds := [], alts := [], laidByText := true, laidKinds := [.data, .data], laidTests := true, laidLooks := .later }
def NoteBodiesUptoCardSaid : Prop := Claim7.holds Tryd.pinned (.plain (OpenSpec.upto noteBodiesSpec)) noteBodiesUptoCard

/-- THE SECOND FORM's CARD OF 'armillarylaw12.NoteTurned'. -/
def noteTurnedUptoCard : Claim7 := { stood := { row := noteTurnedUptoRow, standIns := [], harness := (true, "c9444a58891271c30f5fc46272ba840758a6b250b1adcf0594c1096b5bcdd1cf"), looks := false }, kinds := [], alts := [], laidByText := true, laidKinds := [.data, .data], laidTests := true, laidLooks := .later }
def NoteTurnedUptoCardSaid : Prop := Claim7.holds Tryd.pinned (.plain (OpenSpec.upto noteTurnedSpec)) noteTurnedUptoCard

/-- THE SECOND FORM's CARD OF 'armillarylaw12.NoteCuts'. -/
def noteCutsUptoCard : Claim7 := { stood := { row := noteCutsUptoRow, standIns := [], harness := (true, "c9444a58891271c30f5fc46272ba840758a6b250b1adcf0594c1096b5bcdd1cf"), looks := false }, kinds := [], alts := [], laidByText := true, laidKinds := [.data, .data], laidTests := true, laidLooks := .later }
def NoteCutsUptoCardSaid : Prop := Claim7.holds Tryd.pinned (.plain (OpenSpec.upto noteCutsSpec)) noteCutsUptoCard

/-- THE SECOND FORM's CARD OF 'armillarylaw12.NotePacks'. -/
def notePacksUptoCard : Claim7 := { stood := { row := notePacksUptoRow, standIns := [], harness := (true, "c9444a58891271c30f5fc46272ba840758a6b250b1adcf0594c1096b5bcdd1cf"), looks := false }, kinds := [], alts := [], laidByText := true, laidKinds := [.data, .data], laidTests := true, laidLooks := .later }
def NotePacksUptoCardSaid : Prop := Claim7.holds Tryd.pinned (.plain (OpenSpec.upto notePacksSpec)) notePacksUptoCard

/-- THE SECOND FORM's CARD OF 'armillarylaw19.CallerMost'. -/
def callerMostUptoCard : Claim7 := { stood := { row := callerMostUptoRow, standIns := [], harness := (true, "c9444a58891271c30f5fc46272ba840758a6b250b1adcf0594c1096b5bcdd1cf"), looks := false }, kinds := [], alts := [], laidByText := true, laidKinds := [.data, .data], laidTests := true, laidLooks := .later }
def CallerMostUptoCardSaid : Prop := Claim7.holds Tryd.pinned (.plain (OpenSpec.upto callerMostSpec)) callerMostUptoCard

/-- THE SECOND FORM's CARD OF 'armillarylaw19.CallerPlays'. -/
def callerPlaysUptoCard : Claim7 := { stood := { row := callerPlaysUptoRow, standIns := [], harness := (true, "c9444a58891271c30f5fc46272ba840758a6b250b1adcf0594c1096b5bcdd1cf"), looks := false }, kinds := [], alts := [], laidByText := true, laidKinds := [.data, .data], laidTests := true, laidLooks := .later }
def CallerPlaysUptoCardSaid : Prop := Claim7.holds Tryd.pinned (.plain (OpenSpec.upto callerPlaysSpec)) callerPlaysUptoCard

/-- THE SECOND FORM's CARD OF 'armillarylaw19.CallerStays'. -/
def callerStaysUptoCard : Claim7 := { stood := { row := callerStaysUptoRow, standIns := [], harness := (true, "c9444a58891271c30f5fc46272ba840758a6b250b1adcf0594c1096b5bcdd1cf"), looks := false }, kinds := [], alts := [], laidByText := true, laidKinds := [.data, .data], laidTests := true, laidLooks := .later }
def CallerStaysUptoCardSaid : Prop := Claim7.holds Tryd.pinned (.plain (OpenSpec.upto callerStaysSpec)) callerStaysUptoCard

/-- THE SECOND FORM's CARD OF 'armillarylaw19.CallerDeaf'. -/
def callerDeafUptoCard : Claim7 := { stood := { row := callerDeafUptoRow, standIns := [], harness := (true, "c9444a58891271c30f5fc46272ba840758a6b250b1adcf0594c1096b5bcdd1cf"), looks := false }, kinds := [], alts := [], laidByText := true, laidKinds := [.data, .data], laidTests := true, laidLooks := .later }
def CallerDeafUptoCardSaid : Prop := Claim7.holds Tryd.pinned (.plain (OpenSpec.upto callerDeafSpec)) callerDeafUptoCard
end Rows
end Go.Proofs.YtjkffjngamagkaaDoor
