/-
  DERIVED. GIVEN WITH THE SEED: THE CARDS: each row of YtbpgbhmibmcbnaaGreatDoorRows.lean that lists a variable, with what it lists TIED to the program's text (the seventh form; the later family's looks); each row that meets fmt, with fmt's text TOLD by the authors' own Lean function (tested against real Go, not proved from fmt's source: count such statements apart). THE CARD IS WHAT COUNTS. Prove the row's statement (the work); the ties are given (YtbpgbhmibmcbnaaGreatDoorTie.lean); close each card by the builder's one call (the guide's Derived/Test/ToyasCard.lean, 'card_holds'). Laid BY PROGRAM, IN A SANDBOX (cutbox-door.mjs). By AI agents, Wed Nov 11 2026. No macro, syntax, notation, axiom, sorry.
-/
import Derived.Test.YtbpgbhmibmcbnaaGreatDoorRows
import GoSem.ClaimSeven
namespace Go.Proofs.YtbpgbhmibmcbnaaGreatDoor
namespace Rows

/-- THE TIED CARD OF 'patoislaw9.RunFors'. -/
def runForsCard : Claim7 := { stood := { row := runForsRow, standIns := [], harness := (true, "5d915852ebbf60c016d4d97c4be37d5fd99b3212f993fd301ca934c7b96b7ad9"), looks := true }, kinds := [], alts := [], laidByText := true, laidKinds := [.data, .data, .data, .data, .handle, .sentinel, .sentinel, .sentinel, .sentinel, .sentinel, .sentinel, .sentinel, .sentinel, .sentinel, .pinned], laidTests := true, laidLooks := .later }
def RunForsCardSaid : Prop := Claim7.holds Tryz.pinned (.plain (OpenSpec.ofChange runForsSpec)) runForsCard

/-- THE TIED CARD OF 'patoislaw9.RunWhiles'. -/
def runWhilesCard : Claim7 := { stood := { row := runWhilesRow, standIns := [], harness := (true, "5d915852ebbf60c016d4d97c4be37d5fd99b3212f993fd301ca934c7b96b7ad9"), looks := true }, kinds := [], alts := [], laidByText := true, laidKinds := [.data, .data, .data, .data, .handle, .sentinel, .sentinel, .sentinel, .sentinel, .sentinel, .sentinel, .sentinel, .sentinel, .sentinel, .pinned], laidTests := true, laidLooks := .later }
def RunWhilesCardSaid : Prop := Claim7.holds Tryz.pinned (.plain (OpenSpec.ofChange runWhilesSpec)) runWhilesCard

/-- THE TIED CARD OF 'patoislaw9.RunHears'. -/
def runHearsCard : Claim7 := { stood := { row := runHearsRow, standIns := [], harness := (true, "5d915852ebbf60c016d4d97c4be37d5fd99b3212f993fd301ca934c7b96b7ad9"), looks := true }, kinds := [], alts := [], laidByText := true, laidKinds := [.data, .data, .data, .data, .handle, .sentinel, .sentinel, .sentinel, .sentinel, .sentinel, .sentinel, .sentinel, .sentinel, .sentinel, .pinned], laidTests := true, laidLooks := .later }
def RunHearsCardSaid : Prop := Claim7.holds Tryz.pinned (.plain (OpenSpec.ofChange runHearsSpec)) runHearsCard

/-- THE TIED CARD OF 'patoislaw9.RunDeep'. -/
def runDeepCard : Claim7 := { stood := { row := runDeepRow, standIns := [], harness := (true, "5d915852ebbf60c016d4d97c4be37d5fd99b3212f993fd301ca934c7b96b7ad9"), looks := true }, kinds := [], alts := [], laidByText := true, laidKinds := [.data, .data, .data, .data, .handle, .sentinel, .sentinel, .sentinel, .sentinel, .sentinel, .sentinel, .sentinel, .sentinel, .sentinel, .pinned], laidTests := true, laidLooks := .later }
def RunDeepCardSaid : Prop := Claim7.holds Tryz.pinned (.plain (OpenSpec.ofChange runDeepSpec)) runDeepCard

/-- THE TIED CARD OF 'patoislaw9.RunBig'. -/
def runBigCard : Claim7 := { stood := { row := runBigRow, standIns := [], harness := (true, "5d915852ebbf60c016d4d97c4be37d5fd99b3212f993fd301ca934c7b96b7ad9"), looks := true }, kinds := [], alts := [], laidByText := true, laidKinds := [.data, .data, .data, .data, .handle, .sentinel, .sentinel, .sentinel, .sentinel, .sentinel, .sentinel, .sentinel, .sentinel, .sentinel, .pinned], laidTests := true, laidLooks := .later }
def RunBigCardSaid : Prop := Claim7.holds Tryz.pinned (.plain (OpenSpec.ofChange runBigSpec)) runBigCard

/-- THE SECOND FORM's CARD OF 'patoislaw9.RunFors'. -/
def runForsUptoCard : Claim7 := { stood := { row := runForsUptoRow, standIns := [], harness := (true, "5d915852ebbf60c016d4d97c4be37d5fd99b3212f993fd301ca934c7b96b7ad9"), looks := true }, kinds := [], alts := [], laidByText := true, laidKinds := [.data, .data, .data, .data, .handle, .sentinel, .sentinel, .sentinel, .sentinel, .sentinel, .sentinel, .sentinel, .sentinel, .sentinel, .pinned], laidTests := true, laidLooks := .later }
def RunForsUptoCardSaid : Prop := Claim7.holds Tryz.pinned (.plain (OpenSpec.upto runForsSpec)) runForsUptoCard

/-- THE SECOND FORM's CARD OF 'patoislaw9.RunWhiles'. -/
def runWhilesUptoCard : Claim7 := { stood := { row := runWhilesUptoRow, standIns := [], harness := (true, "5d915852ebbf60c016d4d97c4be37d5fd99b3212f993fd301ca934c7b96b7ad9"), looks := true }, kinds := [], alts := [], laidByText := true, laidKinds := [.data, .data, .data, .data, .handle, .sentinel, .sentinel, .sentinel, .sentinel, .sentinel, .sentinel, .sentinel, .sentinel, .sentinel, .pinned], laidTests := true, laidLooks := .later }
def RunWhilesUptoCardSaid : Prop := Claim7.holds Tryz.pinned (.plain (OpenSpec.upto runWhilesSpec)) runWhilesUptoCard

/-- THE SECOND FORM's CARD OF 'patoislaw9.RunHears'. -/
def runHearsUptoCard : Claim7 := { stood := { row := runHearsUptoRow, standIns := [], harness := (true, "5d915852ebbf60c016d4d97c4be37d5fd99b3212f993fd301ca934c7b96b7ad9"), looks := true }, kinds := [], alts := [], laidByText := true, laidKinds := [.data, .data, .data, .data, .handle, .sentinel, .sentinel, .sentinel, .sentinel, .sentinel, .sentinel, .sentinel, .sentinel, .sentinel, .pinned], laidTests := true, laidLooks := .later }
def RunHearsUptoCardSaid : Prop := Claim7.holds Tryz.pinned (.plain (OpenSpec.upto runHearsSpec)) runHearsUptoCard

/-- THE SECOND FORM's CARD OF 'patoislaw9.RunDeep'. -/
def runDeepUptoCard : Claim7 := { stood := { row := runDeepUptoRow, standIns := [], harness := (true, "5d915852ebbf60c016d4d97c4be37d5fd99b3212f993fd301ca934c7b96b7ad9"), looks := true }, kinds := [], alts := [], laidByText := true, laidKinds := [.data, .data, .data, .data, .handle, .sentinel, .sentinel, .sentinel, .sentinel, .sentinel, .sentinel, .sentinel, .sentinel, .sentinel, .pinned], laidTests := true, laidLooks := .later }
def RunDeepUptoCardSaid : Prop := Claim7.holds Tryz.pinned (.plain (OpenSpec.upto runDeepSpec)) runDeepUptoCard

/-- THE SECOND FORM's CARD OF 'patoislaw9.RunBig'. -/
def runBigUptoCard : Claim7 := { stood := { row := runBigUptoRow, standIns := [], harness := (true, "5d915852ebbf60c016d4d97c4be37d5fd99b3212f993fd301ca934c7b96b7ad9"), looks := true }, kinds := [], alts := [], laidByText := true, laidKinds := [.data, .data, .data, .data, .handle, .sentinel, .sentinel, .sentinel, .sentinel, .sentinel, .sentinel, .sentinel, .sentinel, .sentinel, .pinned], laidTests := true, laidLooks := .later }
def RunBigUptoCardSaid : Prop := Claim7.holds Tryz.pinned (.plain (OpenSpec.upto runBigSpec)) runBigUptoCard
end Rows
end Go.Proofs.YtbpgbhmibmcbnaaGreatDoor
