/-
  The law RunWhiles, as a tied card: for every input the statement's function returns true and leaves its arguments as they were; its condition: the listed variables begin as the program's text lays them, to which the card ties them.
-/
import Derived.Test.YtbpgbhmibmcbnaaGreatDoorMgn
import Derived.Test.YtbpgbhmibmcbnaaGreatDoorCards
import Derived.Test.YtbpgbhmibmcbnaaGreatDoorTie
import Derived.SevenTiedAt
namespace Go.Proofs.YtbpgbhmibmcbnaaGreatDoor
open Go

theorem runWhiles_card : Rows.RunWhilesCardSaid :=
  Claim7.holds_tied_plain_at .later [] [.data, .data, .data, .data, .handle, .sentinel, .sentinel, .sentinel, .sentinel, .sentinel, .sentinel, .sentinel, .sentinel, .sentinel, .pinned] true (true, "5d915852ebbf60c016d4d97c4be37d5fd99b3212f993fd301ca934c7b96b7ad9") true
    runs.runWhiles_over (fun _ h => by cases h) (by kernel_rfl) (fun _ h => by cases h) runWhiles_row_tie rfl ⟨rfl, rfl⟩ (by kernel_rfl) rfl
    (fun f fn hf hfn => by
      obtain rfl : f = 4 := Option.some.inj ((show Tryz.prog.funcNamed "patois/patoislaw9.RunWhiles" = some 4 by kernel_rfl).symm.trans hf) |>.symm
      obtain rfl : fn = Tryz.f4 := (Option.some.inj (Tryz.func4.symm.trans hfn)).symm
      exact ⟨by kernel_rfl, fun j t ht => by
        rw [Tryz.params4] at ht
        have hm : t ∈ [22] := by simpa using Array.mem_of_getElem? ht
        have hall : ([22].all fun u => !Tryz.prog.wantsStandIn u) = true := by kernel_rfl
        exact (show Tryz.prog.wantsStandIn t = false by simpa using List.all_eq_true.1 hall t hm)⟩)
    (by kernel_rfl)
#print axioms runWhiles_card
end Go.Proofs.YtbpgbhmibmcbnaaGreatDoor
