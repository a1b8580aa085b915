/-
  DERIVED. GIVEN WITH THE SEED: THE CARDS: each row of YtiaiagkfkckkpaaDoorRows.lean that lists a variable, with what it lists TIED to the program's text (the seventh form; the later family's looks); each row that meets fmt, with fmt's text TOLD by the authors' own Lean function (tested against real Go, not proved from fmt's source: count such statements apart). THE CARD IS WHAT COUNTS. Prove the row's statement (the work); the ties are given (YtiaiagkfkckkpaaDoorTie.lean); close each card by the builder's one call (the guide's Derived/Test/ToyasCard.lean, 'card_holds'). Laid BY PROGRAM, IN A SANDBOX (cutbox-door.mjs). By AI agents, Wed Nov 11 2026. No macro, syntax, notation, axiom, sorry.
-/
import Derived.Test.YtiaiagkfkckkpaaDoorRows
import GoSem.ClaimSeven
namespace Go.Proofs.YtiaiagkfkckkpaaDoor
namespace Rows

/-- THE TIED CARD OF 'armillarylaw01.SealSums'. -/
def sealSumsCard : Claim7 := { stood := { row := sealSumsRow, standIns := [], harness := (true, "4b38444a58a1b73ae06e7ab3aebc7babc1fd82f030efc3c0d6104c3445432fbf"), looks := false }, kinds := [], alts := [], laidByText := true, laidKinds := [.data], laidTests := true, laidLooks := .later }
def SealSumsCardSaid : Prop := Claim7.holds Tryd.pinned (.plain (OpenSpec.ofChange sealSumsSpec)) sealSumsCard

/-- THE TIED CARD OF 'armillarylaw01.SealParts'. -/
def sealPartsCard : Claim7 := { stood := { row := sealPartsRow, standIns := [], harness := (true, "4b38444a58a1b73ae06e7ab3aebc7babc1fd82f030efc3c0d6104c3445432fbf"), looks := false }, kinds := [], alts := [], laidByText := true, laidKinds := [.data], laidTests := true, laidLooks := .later }
def SealPartsCardSaid : Prop := Claim7.holds Tryd.pinned (.plain (OpenSpec.ofChange sealPartsSpec)) sealPartsCard

/-- THE TIED CARD OF 'armillarylaw01.SealReads'. -/
def sealReadsCard : Claim7 := { stood := { row := sealReadsRow, standIns := [], harness := (true, "4b38444a58a1b73ae06e7ab3aebc7babc1fd82f030efc3c0d6104c3445432fbf"), looks := false }, kinds := [], alts := [], laidByText := true, laidKinds := [.data], laidTests := true, laidLooks := .later }
def SealReadsCardSaid : Prop := Claim7.holds Tryd.pinned (.plain (OpenSpec.ofChange sealReadsSpec)) sealReadsCard

/-- THE TIED CARD OF 'armillarylaw01.SealBursts'. -/
def sealBurstsCard : Claim7 := { stood := { row := sealBurstsRow, standIns := [], harness := (true, "4b38444a58a1b73ae06e7ab3aebc7babc1fd82f030efc3c0d6104c3445432fbf"), looks := false }, kinds := [], alts := [], laidByText := true, laidKinds := [.data], laidTests := true, laidLooks := .later }
def SealBurstsCardSaid : Prop := Claim7.holds Tryd.pinned (.plain (OpenSpec.ofChange sealBurstsSpec)) sealBurstsCard

/-- THE TIED CARD OF 'armillarylaw01.SealLong'. -/
def sealLongCard : Claim7 := { stood := { row := sealLongRow, standIns := [], harness := (true, "4b38444a58a1b73ae06e7ab3aebc7babc1fd82f030efc3c0d6104c3445432fbf"), looks := false }, kinds := [], alts := [], laidByText := true, laidKinds := [.data], laidTests := true, laidLooks := .later }
def SealLongCardSaid : Prop := Claim7.holds Tryd.pinned (.plain (OpenSpec.ofChange sealLongSpec)) sealLongCard

/-- THE TIED CARD OF 'armillarylaw01.SealAll'. -/
def sealAllCard : Claim7 := { stood := { row := sealAllRow, standIns := [], harness := (true, "4b38444a58a1b73ae06e7ab3aebc7babc1fd82f030efc3c0d6104c3445432fbf"), looks := false }, kinds := [], alts := [], laidByText := true, laidKinds := [.data], laidTests := true, laidLooks := .later }
def SealAllCardSaid : Prop := Claim7.holds Tryd.pinned (.plain (OpenSpec.ofChange sealAllSpec)) sealAllCard

/-- THE TIED CARD OF 'armillarylaw01.SealCuts'. -/
def sealCutsCard : Claim7 := { stood := { row := sealCutsRow, standIns := [], harness := (true, "4b38444a58a1b73ae06e7ab3aebc7babc1fd82f030efc3c0d6104c3445432fbf"), looks := false }, kinds := [], alts := [], laidByText := true, laidKinds := [.data], laidTests := true, laidLooks := .later }
def SealCutsCardSaid : Prop := Claim7.holds Tryd.pinned (.plain (OpenSpec.ofChange sealCutsSpec)) sealCutsCard

/-- THE SECOND FORM's CARD OF 'armillarylaw01.SealSums'. -/
def sealSumsUptoCard : Claim7 := { stood := { row := sealSumsUptoRow, standIns := [], harness := (true, "4b38444a58a1b73ae06e7ab3aebc7babc1fd82f030efc3c0d6104c3445432fbf"), looks := false }, kinds := [], alts := [], laidByText := true, laidKinds := [.data], laidTests := true, laidLooks := .later }
def SealSumsUptoCardSaid : Prop := Claim7.holds Tryd.pinned (.plain (OpenSpec.upto sealSumsSpec)) sealSumsUptoCard

/-- THE SECOND FORM's CARD OF 'armillarylaw01.SealParts'. -/
def sealPartsUptoCard : Claim7 := { stood := { row := sealPartsUptoRow, standIns := [], harness := (true, "4b38444a58a1b73ae06e7ab3aebc7babc1fd82f030efc3c0d6104c3445432fbf"), looks := false }, kinds := [], alts := [], laidByText := true, laidKinds := [.data], laidTests := true, laidLooks := .later }
def SealPartsUptoCardSaid : Prop := Claim7.holds Tryd.pinned (.plain (OpenSpec.upto sealPartsSpec)) sealPartsUptoCard

/-- THE SECOND FORM's CARD OF 'armillarylaw01.SealReads'. -/
def sealReadsUptoCard : Claim7 := { stood := { row := sealReadsUptoRow, standIns := [], harness := (true, "4b38444a58a1b73ae06e7ab3aebc7babc1fd82f030efc3c0d6104c3445432fbf"), looks := false }, kinds := [], alts := [], laidByText := true, laidKinds := [.data], laidTests := true, laidLooks := .later }
def SealReadsUptoCardSaid : Prop := Claim7.holds Tryd.pinned (.plain (OpenSpec.upto sealReadsSpec)) sealReadsUptoCard

/-- THE SECOND FORM's CARD OF 'armillarylaw01.SealBursts'. -/
def sealBurstsUptoCard : Claim7 := { stood := { row := sealBurstsUptoRow, standIns := [], harness := (true, "4b38444a58a1b73ae06e7ab3aebc7babc1fd82f030efc3c0d6104c3445432fbf"), looks := false }, kinds := [], alts := [], laidByText := true, laidKinds := [.data], laidTests := true, laidLooks := .later }
def SealBurstsUptoCardSaid : Prop := Claim7.holds Tryd.pinned (.plain (OpenSpec.upto sealBurstsSpec)) sealBurstsUptoCard

/-- THE SECOND FORM's CARD OF 'armillarylaw01.SealLong'. -/
def sealLongUptoCard : Claim7 := { stood := { row := sealLongUptoRow, standIns := [], harness := (true, "4b38444a58a1b73ae06e7ab3aebc7babc1fd82f030efc3c0d6104c3445432fbf"), looks := false }, kinds := [], alts := [], laidByText := true, laidKinds := [.data], laidTests := true, laidLooks := .later }
def SealLongUptoCardSaid : Prop := Claim7.holds Tryd.pinned (.plain (OpenSpec.upto sealLongSpec)) sealLongUptoCard

/-- THE SECOND FORM's CARD OF 'armillarylaw01.SealAll'. -/
def sealAllUptoCard : Claim7 := { stood := { row := sealAllUptoRow, standIns := [], harness := (true, "4b38444a58a1b73ae06e7ab3aebc7babc1fd82f030efc3c0d6104c3445432fbf"), looks := false }, kinds := [], alts := [], laidByText := true, laidKinds := [.data], laidTests := true, laidLooks := .later }
def SealAllUptoCardSaid : Prop := Claim7.holds Tryd.pinned (.plain (OpenSpec.upto sealAllSpec)) sealAllUptoCard

/-- THE SECOND FORM's CARD OF 'armillarylaw01.SealCuts'. -/
def sealCutsUptoCard : Claim7 := { stood := { row := sealCutsUptoRow, standIns := [], harness := (true, "4b38444a58a1b73ae06e7ab3aebc7babc1fd82f030efc3c0d6104c3445432fbf"), looks := false }, kinds := [], alts := [], laidByText := true, laidKinds := [.data], laidTests := true, laidLooks := .later }
def SealCutsUptoCardSaid : Prop := Claim7.holds Tryd.pinned (.plain (OpenSpec.upto sealCutsSpec)) sealCutsUptoCard
end Rows
end Go.Proofs.YtiaiagkfkckkpaaDoor
