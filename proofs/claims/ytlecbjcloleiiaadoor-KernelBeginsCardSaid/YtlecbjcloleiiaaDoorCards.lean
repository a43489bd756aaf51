/-
  DERIVED. GIVEN WITH THE SEED: THE CARDS: each row of YtlecbjcloleiiaaDoorRows.lean that lists a variable, with what it lists TIED to the program's text (the seventh form; the later family's looks); each row that meets fmt, with fmt's text TOLD by the authors' own Lean function (tested against real Go, not proved from fmt's source: count such statements apart). THE CARD IS WHAT COUNTS. Prove the row's statement (the work); the ties are given (YtlecbjcloleiiaaDoorTie.lean); close each card by the builder's one call (the guide's Derived/Test/ToyasCard.lean, 'card_holds'). Laid BY PROGRAM, IN A SANDBOX (cutbox-door.mjs). By AI agents, Wed Nov 11 2026. No macro, syntax, notation, axiom, sorry.
-/
import Derived.Test.YtlecbjcloleiiaaDoorRows
import GoSem.ClaimSeven
namespace Go.Proofs.YtlecbjcloleiiaaDoor
namespace Rows

/-- THE TIED CARD OF 'patoislaw4.KernelFiles'. -/
def kernelFilesCard : Claim7 := { stood := { row := kernelFilesRow, standIns := [], harness := (true, "0a02880420fb962320e7ea446856587ebb7b496135d59568e7f4a699c982e7a0"), looks := true }, kinds := [], alts := [], laidByText := true, laidKinds := [.sentinel, .sentinel, .sentinel, .sentinel, .sentinel], laidTests := true, laidLooks := .later }
def KernelFilesCardSaid : Prop := Claim7.holds Tryd.pinned (.plain (OpenSpec.ofChange kernelFilesSpec)) kernelFilesCard

/-- THE TIED CARD OF 'patoislaw4.KernelOwn'. -/
def kernelOwnCard : Claim7 := { stood := { row := kernelOwnRow, standIns := [], harness := (true, "0a02880420fb962320e7ea446856587ebb7b496135d59568e7f4a699c982e7a0"), looks := true }, kinds := [], alts := [], laidByText := true, laidKinds := [.sentinel, .sentinel, .sentinel, .sentinel, .sentinel], laidTests := true, laidLooks := .later }
def KernelOwnCardSaid : Prop := Claim7.holds Tryd.pinned (.plain (OpenSpec.ofChange kernelOwnSpec)) kernelOwnCard

/-- THE TIED CARD OF 'patoislaw4.KernelRows'. -/
def kernelRowsCard : Claim7 := { stood := { row := kernelRowsRow, standIns := [], harness := (true, "0a02880420fb962320e7ea446856587ebb7b496135d59568e7f4a699c982e7a0"), looks := true }, kinds := [], alts := [], laidByText := true, laidKinds := [.sentinel, .sentinel, .sentinel, .sentinel, .sentinel], laidTests := true, laidLooks := .later }
def KernelRowsCardSaid : Prop := Claim7.holds Tryd.pinned (.plain (OpenSpec.ofChange kernelRowsSpec)) kernelRowsCard

/-- THE TIED CARD OF 'patoislaw4.KernelMarks'. -/
def kernelMarksCard : Claim7 := { stood := { row := kernelMarksRow, standIns := [], harness := (true, "0a02880420fb962320e7ea446856587ebb7b496135d59568e7f4a699c982e7a0"), looks := true }, kinds := [], alts := [], laidByText := true, laidKinds := [.sentinel, .sentinel, .sentinel, .sentinel, .sentinel], laidTests := true, laidLooks := .later }
def KernelMarksCardSaid : Prop := Claim7.holds Tryd.pinned (.plain (OpenSpec.ofChange kernelMarksSpec)) kernelMarksCard

/-- THE TIED CARD OF 'patoislaw4.KernelPlays'. -/
def kernelPlaysCard : Claim7 := { stood := { row := kernelPlaysRow, standIns := [], harness := (true, "0a02880420fb962320e7ea446856587ebb7b496135d59568e7f4a699c982e7a0"), looks := true }, kinds := [], alts := [], laidByText := true, laidKinds := [.sentinel, .sentinel, .sentinel, .sentinel, .sentinel, .sentinel, .sentinel, .sentinel, .sentinel, .sentinel, .sentinel, .sentinel, .sentinel, .sentinel, .sentinel, .sentinel, .sentinel], laidTests := true, laidLooks := .later }
def KernelPlaysCardSaid : Prop := Claim7.holds Tryd.pinned (.plain (OpenSpec.ofChange kernelPlaysSpec)) kernelPlaysCard

/-- THE TIED CARD OF 'patoislaw4.KernelBegins'. -/
def kernelBeginsCard : Claim7 := { stood := { row := kernelBeginsRow, standIns := [], harness := (true, "0a02880420fb962320e7ea446856587ebb7b496135d59568e7f4a699c982e7a0"), looks := true }, kinds := [], alts := [], laidByText := true, laidKinds := [.sentinel, .sentinel, .sentinel, .sentinel, .sentinel], laidTests := true, laidLooks := .later }
def KernelBeginsCardSaid : Prop := Claim7.holds Tryd.pinned (.plain (OpenSpec.ofChange kernelBeginsSpec)) kernelBeginsCard

/-- THE SECOND FORM's CARD OF 'patoislaw4.KernelFiles'. -/
def kernelFilesUptoCard : Claim7 := { stood := { row := kernelFilesUptoRow, standIns := [], harness := (true, "0a02880420fb962320e7ea446856587ebb7b496135d59568e7f4a699c982e7a0"), looks := true }, kinds := [], alts := [], laidByText := true, laidKinds := [.sentinel, .sentinel, .sentinel, .sentinel, .sentinel], laidTests := true, laidLooks := .later }
def KernelFilesUptoCardSaid : Prop := Claim7.holds Tryd.pinned (.plain (OpenSpec.upto kernelFilesSpec)) kernelFilesUptoCard

/-- THE SECOND FORM's CARD OF 'patoislaw4.KernelOwn'. -/
def kernelOwnUptoCard : Claim7 := { stood := { row := kernelOwnUptoRow, standIns := [], harness := (true, "0a02880420fb962320e7ea446856587ebb7b496135d59568e7f4a699c982e7a0"), looks := true }, kinds := [], alts := [], laidByText := true, laidKinds := [.sentinel, .sentinel, .sentinel, .sentinel, .sentinel], laidTests := true, laidLooks := .later }
def KernelOwnUptoCardSaid : Prop := Claim7.holds Tryd.pinned (.plain (OpenSpec.upto kernelOwnSpec)) kernelOwnUptoCard

/-- THE SECOND FORM's CARD OF 'patoislaw4.KernelRows'. -/
def kernelRowsUptoCard : Claim7 := { stood := { row := kernelRowsUptoRow, standIns := [], harness := (true, "0a02880420fb962320e7ea446856587ebb7b496135d59568e7f4a699c982e7a0"), looks := true }, kinds := [], alts := [], laidByText := true, laidKinds := [.sentinel, .sentinel, .sentinel, .sentinel, .sentinel], laidTests := true, laidLooks := .later }
def KernelRowsUptoCardSaid : Prop := Claim7.holds Tryd.pinned (.plain (OpenSpec.upto kernelRowsSpec)) kernelRowsUptoCard

/-- THE SECOND FORM's CARD OF 'patoislaw4.KernelMarks'. -/
def kernelMarksUptoCard : Claim7 := { stood := { row := kernelMarksUptoRow, standIns := [], harness := (true, "0a02880420fb962320e7ea446856587ebb7b496135d59568e7f4a699c982e7a0"), looks := true }, kinds := [], alts := [], laidByText := true, laidKinds := [.sentinel, .sentinel, .sentinel, .sentinel, .sentinel], laidTests := true, laidLooks := .later }
def KernelMarksUptoCardSaid : Prop := Claim7.holds Tryd.pinned (.plain (OpenSpec.upto kernelMarksSpec)) kernelMarksUptoCard

/-- THE SECOND FORM's CARD OF 'patoislaw4.KernelPlays'. -/
def kernelPlaysUptoCard : Claim7 := { stood := { row := kernelPlaysUptoRow, standIns := [], harness := (true, "0a02880420fb962320e7ea446856587ebb7b496135d59568e7f4a699c982e7a0"), looks := true }, kinds := [], alts := [], laidByText := true, laidKinds := [.sentinel, .sentinel, .sentinel, .sentinel, .sentinel, .sentinel, .sentinel, .sentinel, .sentinel, .sentinel, .sentinel, .sentinel, .sentinel, .sentinel, .sentinel, .sentinel, .sentinel], laidTests := true, laidLooks := .later }
def KernelPlaysUptoCardSaid : Prop := Claim7.holds Tryd.pinned (.plain (OpenSpec.upto kernelPlaysSpec)) kernelPlaysUptoCard

/-- THE SECOND FORM's CARD OF 'patoislaw4.KernelBegins'. -/
def kernelBeginsUptoCard : Claim7 := { stood := { row := kernelBeginsUptoRow, standIns := [], harness := (true, "0a02880420fb962320e7ea446856587ebb7b496135d59568e7f4a699c982e7a0"), looks := true }, kinds := [], alts := [], laidByText := true, laidKinds := [.sentinel, .sentinel, .sentinel, .sentinel, .sentinel], laidTests := true, laidLooks := .later }
def KernelBeginsUptoCardSaid : Prop := Claim7.holds Tryd.pinned (.plain (OpenSpec.upto kernelBeginsSpec)) kernelBeginsUptoCard
end Rows
end Go.Proofs.YtlecbjcloleiiaaDoor
