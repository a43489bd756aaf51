/-
  The law KernelBegins, as a tied card: for every input the statement's function returns true and leaves its arguments as they were; its condition: the five listed variables begin as the program's text lays them, to which the card ties them.
-/
import Derived.Test.YtlecbjcloleiiaaDoorMgj
import Derived.Test.YtlecbjcloleiiaaDoorCards
import Derived.Test.YtlecbjcloleiiaaDoorTie
import Derived.SevenTiedAt
namespace Go.Proofs.YtlecbjcloleiiaaDoor
open Go

theorem kernelBegins_card : Rows.KernelBeginsCardSaid :=
  Claim7.holds_tied_plain_at .later [] [.sentinel, .sentinel, .sentinel, .sentinel, .sentinel] true (true, "0a02880420fb962320e7ea446856587ebb7b496135d59568e7f4a699c982e7a0") true
    kern.kernelBegins_over (fun _ h => by cases h) (by kernel_rfl) (fun _ h => by cases h) kernelBegins_row_tie rfl ⟨rfl, rfl⟩ (by kernel_rfl) rfl
    (fun f fn hf hfn => by
      obtain rfl : f = 8 := Option.some.inj ((show Tryd.prog.funcNamed "patois/patoislaw4.KernelBegins" = some 8 by kernel_rfl).symm.trans hf) |>.symm
      obtain rfl : fn = Tryd.f8 := (Option.some.inj (Tryd.func8.symm.trans hfn)).symm
      exact ⟨by kernel_rfl, fun j t ht => by
        rw [Tryd.params8] at ht
        have hm : t ∈ [48, 48, 3] := by simpa using Array.mem_of_getElem? ht
        have hall : ([48, 48, 3].all fun u => !Tryd.prog.wantsStandIn u) = true := by kernel_rfl
        exact (show Tryd.prog.wantsStandIn t = false by simpa using List.all_eq_true.1 hall t hm)⟩)
    (by kernel_rfl)
#print axioms kernelBegins_card
end Go.Proofs.YtlecbjcloleiiaaDoor
