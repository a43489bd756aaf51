import Derived.Test.YtlecbjcloleiiaaDoorRamT
import Derived.Test.YtlecbjcloleiiaaDoorRamM
import Derived.Test.YtlecbjcloleiiaaDoorChecked
import Derived.KernelRfl
/-! The functions stand to the program. By program (gen.py). -/
namespace Go.Proofs.YtlecbjcloleiiaaDoor.Ram
open Go

def gl : List Nat := [0, 1, 2, 3, 4]
theorem ok3 : okFun Tryd.prog gl Tryd.f3 a3 = true := by kernel_rfl
theorem ok4 : okFun Tryd.prog gl Tryd.f4 a4 = true := by kernel_rfl
theorem ok5 : okFun Tryd.prog gl Tryd.f5 a5 = true := by kernel_rfl
theorem ok6 : okFun Tryd.prog gl Tryd.f6 a6 = true := by kernel_rfl
theorem ok8 : okFun Tryd.prog gl Tryd.f8 a8 = true := by kernel_rfl
theorem ok9 : okFun Tryd.prog gl Tryd.f9 a9 = true := by kernel_rfl
theorem ok10 : okFun Tryd.prog gl Tryd.f10 a10 = true := by kernel_rfl
theorem ok11 : okFun Tryd.prog gl Tryd.f11 a11 = true := by kernel_rfl
theorem ok12 : okFun Tryd.prog gl Tryd.f12 a12 = true := by kernel_rfl
theorem ok13 : okFun Tryd.prog gl Tryd.f13 a13 = true := by kernel_rfl
theorem ok14 : okFun Tryd.prog gl Tryd.f14 a14 = true := by kernel_rfl
theorem ok15 : okFun Tryd.prog gl Tryd.f15 a15 = true := by kernel_rfl
theorem ok16 : okFun Tryd.prog gl Tryd.f16 a16 = true := by kernel_rfl
theorem ok17 : okFun Tryd.prog gl Tryd.f17 a17 = true := by kernel_rfl
theorem ok18 : okFun Tryd.prog gl Tryd.f18 a18 = true := by kernel_rfl
theorem ok19 : okFun Tryd.prog gl Tryd.f19 a19 = true := by kernel_rfl
theorem ok20 : okFun Tryd.prog gl Tryd.f20 a20 = true := by kernel_rfl
theorem ok21 : okFun Tryd.prog gl Tryd.f21 a21 = true := by kernel_rfl
theorem ok22 : okFun Tryd.prog gl Tryd.f22 a22 = true := by kernel_rfl
theorem ok23 : okFun Tryd.prog gl Tryd.f23 a23 = true := by kernel_rfl
theorem ok27 : okFun Tryd.prog gl Tryd.f27 a27 = true := by kernel_rfl
theorem ok34 : okFun Tryd.prog gl Tryd.f34 a34 = true := by kernel_rfl
theorem ok36 : okFun Tryd.prog gl Tryd.f36 a36 = true := by kernel_rfl
theorem ok37 : okFun Tryd.prog gl Tryd.f37 a37 = true := by kernel_rfl
theorem ok38 : okFun Tryd.prog gl Tryd.f38 a38 = true := by kernel_rfl
theorem ok39 : okFun Tryd.prog gl Tryd.f39 a39 = true := by kernel_rfl
theorem ok40 : okFun Tryd.prog gl Tryd.f40 a40 = true := by kernel_rfl
theorem ok41 : okFun Tryd.prog gl Tryd.f41 a41 = true := by kernel_rfl
theorem ok42 : okFun Tryd.prog gl Tryd.f42 a42 = true := by kernel_rfl
theorem ok43 : okFun Tryd.prog gl Tryd.f43 a43 = true := by kernel_rfl
theorem ok44 : okFun Tryd.prog gl Tryd.f44 a44 = true := by kernel_rfl
theorem ok45 : okFun Tryd.prog gl Tryd.f45 a45 = true := by kernel_rfl
theorem ok46 : okFun Tryd.prog gl Tryd.f46 a46 = true := by kernel_rfl
theorem ok47 : okFun Tryd.prog gl Tryd.f47 a47 = true := by kernel_rfl
theorem ok48 : okFun Tryd.prog gl Tryd.f48 a48 = true := by kernel_rfl
theorem ok49 : okFun Tryd.prog gl Tryd.f49 a49 = true := by kernel_rfl
theorem ok50 : okFun Tryd.prog gl Tryd.f50 a50 = true := by kernel_rfl
theorem ok51 : okFun Tryd.prog gl Tryd.f51 a51 = true := by kernel_rfl
theorem ok54 : okFun Tryd.prog gl Tryd.f54 a54 = true := by kernel_rfl
theorem ok55 : okFun Tryd.prog gl Tryd.f55 a55 = true := by kernel_rfl
theorem ok59 : okFun Tryd.prog gl Tryd.f59 a59 = true := by kernel_rfl
theorem ok60 : okFun Tryd.prog gl Tryd.f60 a60 = true := by kernel_rfl
theorem ok61 : okFun Tryd.prog gl Tryd.f61 a61 = true := by kernel_rfl
theorem ok62 : okFun Tryd.prog gl Tryd.f62 a62 = true := by kernel_rfl
theorem ok63 : okFun Tryd.prog gl Tryd.f63 a63 = true := by kernel_rfl
theorem ok64 : okFun Tryd.prog gl Tryd.f64 a64 = true := by kernel_rfl
theorem ok65 : okFun Tryd.prog gl Tryd.f65 a65 = true := by kernel_rfl
theorem ok66 : okFun Tryd.prog gl Tryd.f66 a66 = true := by kernel_rfl
theorem ok67 : okFun Tryd.prog gl Tryd.f67 a67 = true := by kernel_rfl
theorem ok68 : okFun Tryd.prog gl Tryd.f68 a68 = true := by kernel_rfl
theorem ok71 : okFun Tryd.prog gl Tryd.f71 a71 = true := by kernel_rfl
theorem ok72 : okFun Tryd.prog gl Tryd.f72 a72 = true := by kernel_rfl
theorem ok80 : okFun Tryd.prog gl Tryd.f80 a80 = true := by kernel_rfl
theorem ok81 : okFun Tryd.prog gl Tryd.f81 a81 = true := by kernel_rfl
end Go.Proofs.YtlecbjcloleiiaaDoor.Ram
