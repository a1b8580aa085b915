/-
  DERIVED. GIVEN WITH THE SEED: THE CARDS: each row of YtnkbfelnggompaaDoorRows.lean that lists a variable, with what it lists TIED to the program's text (the seventh form; the later family's looks); each row that meets fmt, with fmt's text TOLD by the authors' own Lean function (tested against real Go, not proved from fmt's source: count such statements apart). THE CARD IS WHAT COUNTS. Prove the row's statement (the work); the ties are given (YtnkbfelnggompaaDoorTie.lean); close each card by the builder's one call (the guide's Derived/Test/ToyasCard.lean, 'card_holds'). Laid BY PROGRAM, IN A SANDBOX (cutbox-door.mjs). By AI agents, Wed Nov 11 2026. No macro, syntax, notation, axiom, sorry.
-/
import Derived.Test.YtnkbfelnggompaaDoorRows
import GoSem.ClaimSeven
namespace Go.Proofs.YtnkbfelnggompaaDoor
namespace Rows

/-- THE TIED CARD OF 'armillarylaw12.NoteFields'. -/
def noteFieldsCard : Claim7 := { stood := { row := noteFieldsRow, standIns := [], harness := (true, "dd6f3db7b1b821687c1e6711fa08a28440c12236826e3857e7d761115d51f9e7"), looks := false }, kinds := [], alts := [], laidByText := true, laidKinds := [.data, .data], laidTests := true, laidLooks := .later }
def NoteFieldsCardSaid : Prop := Claim7.holds Tryd.pinned (.plain (OpenSpec.ofChange noteFieldsSpec)) noteFieldsCard

/-- THE TIED CARD OF 'armillarylaw12.NoteSames'. -/
def noteSamesCard : Claim7 := { stood := { row := noteSamesRow, standIns := [], harness := (true, "dd6f3db7b1b821687c1e6711fa08a28440c12236826e3857e7d761115d51f9e7"), looks := false }, kinds := [], alts := [], laidByText := true, laidKinds := [.data, .data], laidTests := true, laidLooks := .later }
def NoteSamesCardSaid : Prop := Claim7.holds Tryd.pinned (.plain (OpenSpec.ofChange noteSamesSpec)) noteSamesCard

/-- THE TIED CARD OF 'armillarylaw12.NoteUnpacks'. -/
def noteUnpacksCard : Claim7 := { stood := { row := noteUnpacksRow, standIns := [], harness := (true, "dd6f3db7b1b821687c1e6711fa08a28440c12236826e3857e7d761115d51f9e7"), looks := false }, kinds := [], alts := [], laidByText := true, laidKinds := [.data, .data], laidTests := true, laidLooks := .later }
def NoteUnpacksCardSaid : Prop := Claim7.holds Tryd.pinned (.plain (OpenSpec.ofChange noteUnpacksSpec)) noteUnpacksCard

/-- THE TIED CARD OF 'armillarylaw12.NoteBodies'. -/
def noteBodiesCard : Claim7 := { stood := { row := noteBodiesRow, standIns := [], harness := (true, "dd6f3db7b1b821687c1e6711fa08a28440c12236826e3857e7d761115d51f9e7"), looks := false }, kinds := [], alts := [], laidByText := true, laidKinds := [.data, .data], laidTests := true, laidLooks := .later }
def NoteBodiesCardSaid : Prop := Claim7.holds Tryd.pinned (.plain (OpenSpec.ofChange noteBodiesSpec)) noteBodiesCard

/-- THE TIED CARD OF 'armillarylaw12.NoteTurned'. -/
def noteTurnedCard : Claim7 := { stood := { row := noteTurnedRow, standIns := [], harness := (true, "dd6f3db7b1b821687c1e6711fa08a28440c12236826e3857e7d761115d51f9e7"), looks := false }, kinds := [], alts := [], laidByText := true, laidKinds := [.data, .data], laidTests := true, laidLooks := .later }
def NoteTurnedCardSaid : Prop := Claim7.holds Tryd.pinned (.plain (OpenSpec.ofChange noteTurnedSpec)) noteTurnedCard

/-- THE TIED CARD OF 'armillarylaw12.NoteCuts'. -/
def noteCutsCard : Claim7 := { stood := { row := noteCutsRow, standIns := [], harness := (true, "dd6f3db7b1b821687c1e6711fa08a28440c12236826e3857e7d761115d51f9e7"), looks := false }, kinds := [], alts := [], laidByText := true, laidKinds := [.data, .data], laidTests := true, laidLooks := .later }
def NoteCutsCardSaid : Prop := Claim7.holds Tryd.pinned (.plain (OpenSpec.ofChange noteCutsSpec)) noteCutsCard

/-- THE TIED CARD OF 'armillarylaw12.NotePacks'. -/
def notePacksCard : Claim7 := { stood := { row := notePacksRow, standIns := [], harness := (true, "dd6f3db7b1b821687c1e6711fa08a28440c12236826e3857e7d761115d51f9e7"), looks := false }, kinds := [], alts := [], laidByText := true, laidKinds := [.data, .data], laidTests := true, laidLooks := .later }
def NotePacksCardSaid : Prop := Claim7.holds Tryd.pinned (.plain (OpenSpec.ofChange notePacksSpec)) notePacksCard

/-- THE SECOND FORM's CARD OF 'armillarylaw12.NoteFields'. -/
def noteFieldsUptoCard : Claim7 := { stood := { row := noteFieldsUptoRow, standIns := [], harness := (true, "dd6f3db7b1b821687c1e6711fa08a28440c12236826e3857e7d761115d51f9e7"), looks := false }, kinds := [], alts := [], laidByText := true, laidKinds := [.data, .data], laidTests := true, laidLooks := .later }
def NoteFieldsUptoCardSaid : Prop := Claim7.holds Tryd.pinned (.plain (OpenSpec.upto noteFieldsSpec)) noteFieldsUptoCard

/-- THE SECOND FORM's CARD OF 'armillarylaw12.NoteSames'. -/
def noteSamesUptoCard : Claim7 := { stood := { row := noteSamesUptoRow, standIns := [], harness := (true, "dd6f3db7b1b821687c1e6711fa08a28440c12236826e3857e7d761115d51f9e7"), looks := false }, kinds := [], alts := [], laidByText := true, laidKinds := [.data, .data], laidTests := true, laidLooks := .later }
def NoteSamesUptoCardSaid : Prop := Claim7.holds Tryd.pinned (.plain (OpenSpec.upto noteSamesSpec)) noteSamesUptoCard

/-- THE SECOND FORM's CARD OF 'armillarylaw12.NoteUnpacks'. -/
def noteUnpacksUptoCard : Claim7 := { stood := { row := noteUnpacksUptoRow, standIns := [], harness := (true, "dd6f3db7b1b821687c1e6711fa08a28440c12236826e3857e7d761115d51f9e7"), looks := false }, kinds := [], alts := [], laidByText := true, laidKinds := [.data, .data], laidTests := true, laidLooks := .later }
def NoteUnpacksUptoCardSaid : Prop := Claim7.holds Tryd.pinned (.plain (OpenSpec.upto noteUnpacksSpec)) noteUnpacksUptoCard

/-- THE SECOND FORM's CARD OF 'armillarylaw12.NoteBodies'. -/
def noteBodiesUptoCard : Claim7 := { stood := { row := noteBodiesUptoRow, standIns := [], harness := (true, "dd6f3db7b1b821687c1e6711fa08a28440c12236826e3857e7d761115d51f9e7"), looks := false }, kinds := [], alts := [], laidByText := true, laidKinds := [.data, .data], laidTests := true, laidLooks := .later }
def NoteBodiesUptoCardSaid : Prop := Claim7.holds Tryd.pinned (.plain (OpenSpec.upto noteBodiesSpec)) noteBodiesUptoCard

/-- THE SECOND FORM's CARD OF 'armillarylaw12.NoteTurned'. -/
def noteTurnedUptoCard : Claim7 := { stood := { row := noteTurnedUptoRow, standIns := [], harness := (true, "dd6f3db7b1b821687c1e6711fa08a28440c12236826e3857e7d761115d51f9e7"), looks := false }, kinds := [], alts := [], laidByText := true, laidKinds := [.data, .data], laidTests := true, laidLooks := .later }
def NoteTurnedUptoCardSaid : Prop := Claim7.holds Tryd.pinned (.plain (OpenSpec.upto noteTurnedSpec)) noteTurnedUptoCard

/-- THE SECOND FORM's CARD OF 'armillarylaw12.NoteCuts'. -/
def noteCutsUptoCard : Claim7 := { stood := { row := noteCutsUptoRow, standIns := [], harness := (true, "dd6f3db7b1b821687c1e6711fa08a28440c12236826e3857e7d761115d51f9e7"), looks := false }, kinds := [], alts := [], laidByText := true, laidKinds := [.data, .data], laidTests := true, laidLooks := .later }
def NoteCutsUptoCardSaid : Prop := Claim7.holds Tryd.pinned (.plain (OpenSpec.upto noteCutsSpec)) noteCutsUptoCard

/-- THE SECOND FORM's CARD OF 'armillarylaw12.NotePacks'. -/
def notePacksUptoCard : Claim7 := { stood := { row := notePacksUptoRow, standIns := [], harness := (true, "dd6f3db7b1b821687c1e6711fa08a28440c12236826e3857e7d761115d51f9e7"), looks := false }, kinds := [], alts := [], laidByText := true, laidKinds := [.data, .data], laidTests := true, laidLooks := .later }
def NotePacksUptoCardSaid : Prop := Claim7.holds Tryd.pinned (.plain (OpenSpec.upto notePacksSpec)) notePacksUptoCard
end Rows
end Go.Proofs.YtnkbfelnggompaaDoor
