/-
  The law KernelRows, as a tied card: for every input the statement's function returns true and leaves its arguments as they were; its condition: the five listed variables begin as the program's text lays them, to which the card ties them.
-/
import Derived.Test.YtlecbjcloleiiaaDoorKrR
import Derived.Test.YtlecbjcloleiiaaDoorCards
import Derived.Test.YtlecbjcloleiiaaDoorTie
import Derived.SevenTiedAt
namespace Go.Proofs.YtlecbjcloleiiaaDoor
open Go

theorem kernelRows_card : Rows.KernelRowsCardSaid :=
  Claim7.holds_tied_plain_at .later [] [.sentinel, .sentinel, .sentinel, .sentinel, .sentinel] true (true, "0a02880420fb962320e7ea446856587ebb7b496135d59568e7f4a699c982e7a0") true
    kern.rows_over (fun _ h => by cases h) (by kernel_rfl) (fun _ h => by cases h) kernelRows_row_tie rfl ⟨rfl, rfl⟩ (by kernel_rfl) rfl
    (fun f fn hf hfn => by
      obtain rfl : f = 5 := Option.some.inj ((show Tryd.prog.funcNamed "patois/patoislaw4.KernelRows" = some 5 by kernel_rfl).symm.trans hf) |>.symm
      obtain rfl : fn = Tryd.f5 := (Option.some.inj (Tryd.func5.symm.trans hfn)).symm
      exact ⟨by kernel_rfl, fun j t ht => by
        rw [Tryd.params5] at ht
        have hm : t ∈ [35, 35, 3, 9] := by simpa using Array.mem_of_getElem? ht
        have hall : ([35, 35, 3, 9].all fun u => !Tryd.prog.wantsStandIn u) = true := by kernel_rfl
        exact (show Tryd.prog.wantsStandIn t = false by simpa using List.all_eq_true.1 hall t hm)⟩)
    (by kernel_rfl)
#print axioms kernelRows_card
end Go.Proofs.YtlecbjcloleiiaaDoor
