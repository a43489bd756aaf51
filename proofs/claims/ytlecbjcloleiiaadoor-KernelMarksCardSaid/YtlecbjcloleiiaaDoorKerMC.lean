/-
  The law KernelMarks, as a tied card: for every input the statement's function returns true and leaves its arguments as they were; its condition: the five listed variables begin as the program's text lays them, to which the card ties them.
-/
import Derived.Test.YtlecbjcloleiiaaDoorKerMR
import Derived.Test.YtlecbjcloleiiaaDoorCards
import Derived.Test.YtlecbjcloleiiaaDoorTie
import Derived.SevenTiedAt
namespace Go.Proofs.YtlecbjcloleiiaaDoor
open Go

theorem kernelMarks_card : Rows.KernelMarksCardSaid :=
  Claim7.holds_tied_plain_at .later [] [.sentinel, .sentinel, .sentinel, .sentinel, .sentinel] true (true, "0a02880420fb962320e7ea446856587ebb7b496135d59568e7f4a699c982e7a0") true
    marks.over (fun _ h => by cases h) (by kernel_rfl) (fun _ h => by cases h) kernelMarks_row_tie rfl ⟨rfl, rfl⟩ (by kernel_rfl) rfl
    (fun f fn hf hfn => by
      obtain rfl : f = 6 := Option.some.inj ((show Tryd.prog.funcNamed "patois/patoislaw4.KernelMarks" = some 6 by kernel_rfl).symm.trans hf) |>.symm
      obtain rfl : fn = Tryd.f6 := (Option.some.inj (Tryd.func6.symm.trans hfn)).symm
      exact ⟨by kernel_rfl, fun j t ht => by
        rw [Tryd.params6] at ht
        have hm : t ∈ [62, 62] := by simpa using Array.mem_of_getElem? ht
        have hall : ([62, 62].all fun u => !Tryd.prog.wantsStandIn u) = true := by kernel_rfl
        exact (show Tryd.prog.wantsStandIn t = false by simpa using List.all_eq_true.1 hall t hm)⟩)
    (by kernel_rfl)
#print axioms kernelMarks_card
end Go.Proofs.YtlecbjcloleiiaaDoor
