import Derived.Test.YtlecbjcloleiiaaDoorRamV
import Derived.Test.YtlecbjcloleiiaaDoorRamN
namespace Go.Proofs.YtlecbjcloleiiaaDoor.Ram
open Go
def isTrue : Option (AV × AH) → Bool
  | some (.bool true, _) => true
  | _ => false
set_option maxRecDepth 100000 in
theorem first_run : isTrue (callC T 60 F_patoislaw4_first [] (H00 100)) = true := by kernel_rfl
end Go.Proofs.YtlecbjcloleiiaaDoor.Ram
