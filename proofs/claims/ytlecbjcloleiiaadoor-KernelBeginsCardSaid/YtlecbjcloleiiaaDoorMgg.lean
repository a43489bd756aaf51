/-
  Parts of the proof: RamU.
-/
import Derived.Test.YtlecbjcloleiiaaDoorMgc
import Derived.Test.YtlecbjcloleiiaaDoorMgf
import Derived.Test.YtlecbjcloleiiaaDoorChecked
import Derived.KernelRfl
/-! The functions stand to the program. By program (gen2.py). -/
namespace Go.Proofs.YtlecbjcloleiiaaDoor.Ram
open Go

def gl : List Nat := [G_api_ErrBig, G_api_ErrMany, G_api_ErrName, G_api_ErrLong, G_api_ErrNumber]
theorem ok_patoislaw4_KernelFiles : okFun Tryd.prog gl Tryd.f3 a_patoislaw4_KernelFiles = true := by kernel_rfl
theorem ok_patoislaw4_KernelOwn : okFun Tryd.prog gl Tryd.f4 a_patoislaw4_KernelOwn = true := by kernel_rfl
theorem ok_patoislaw4_KernelRows : okFun Tryd.prog gl Tryd.f5 a_patoislaw4_KernelRows = true := by kernel_rfl
theorem ok_patoislaw4_KernelMarks : okFun Tryd.prog gl Tryd.f6 a_patoislaw4_KernelMarks = true := by kernel_rfl
theorem ok_patoislaw4_KernelPlays : okFun Tryd.prog gl Tryd.f7 a_patoislaw4_KernelPlays = true := by kernel_rfl
theorem ok_patoislaw4_KernelBegins : okFun Tryd.prog gl Tryd.f8 a_patoislaw4_KernelBegins = true := by kernel_rfl
theorem ok_patoislaw4_first : okFun Tryd.prog gl Tryd.f9 a_patoislaw4_first = true := by kernel_rfl
theorem ok_world_New : okFun Tryd.prog gl Tryd.f10 a_world_New = true := by kernel_rfl
theorem ok_world_Kernel_Open : okFun Tryd.prog gl Tryd.f11 a_world_Kernel_Open = true := by kernel_rfl
theorem ok_world_Kernel_Write : okFun Tryd.prog gl Tryd.f12 a_world_Kernel_Write = true := by kernel_rfl
theorem ok_world_Kernel_Names : okFun Tryd.prog gl Tryd.f13 a_world_Kernel_Names = true := by kernel_rfl
theorem ok_patoisref_Texts : okFun Tryd.prog gl Tryd.f14 a_patoisref_Texts = true := by kernel_rfl
theorem ok_world_Kernel_Exec : okFun Tryd.prog gl Tryd.f15 a_world_Kernel_Exec = true := by kernel_rfl
theorem ok_world_asked_Trace : okFun Tryd.prog gl Tryd.f16 a_world_asked_Trace = true := by kernel_rfl
theorem ok_world_Kernel_Files : okFun Tryd.prog gl Tryd.f17 a_world_Kernel_Files = true := by kernel_rfl
theorem ok_patoisref_SameTexts : okFun Tryd.prog gl Tryd.f18 a_patoisref_SameTexts = true := by kernel_rfl
theorem ok_world_Kernel_Reads : okFun Tryd.prog gl Tryd.f19 a_world_Kernel_Reads = true := by kernel_rfl
theorem ok_world_asked_Mark : okFun Tryd.prog gl Tryd.f20 a_world_asked_Mark = true := by kernel_rfl
theorem ok_patoisref_SameEvents : okFun Tryd.prog gl Tryd.f21 a_patoisref_SameEvents = true := by kernel_rfl
theorem ok_world_Erase : okFun Tryd.prog gl Tryd.f22 a_world_Erase = true := by kernel_rfl
theorem ok_world_asked_Len : okFun Tryd.prog gl Tryd.f23 a_world_asked_Len = true := by kernel_rfl
theorem ok_patoislaw4_light : okFun Tryd.prog gl Tryd.f24 a_patoislaw4_light = true := by kernel_rfl
theorem ok_patoisref4_May : okFun Tryd.prog gl Tryd.f25 a_patoisref4_May = true := by kernel_rfl
theorem ok_patoissee_Is : okFun Tryd.prog gl Tryd.f26 a_patoissee_Is = true := by kernel_rfl
theorem ok_world_May : okFun Tryd.prog gl Tryd.f27 a_world_May = true := by kernel_rfl
theorem ok_patoisref4_New : okFun Tryd.prog gl Tryd.f28 a_patoisref4_New = true := by kernel_rfl
theorem ok_patoisref4_Kernel_Exec : okFun Tryd.prog gl Tryd.f29 a_patoisref4_Kernel_Exec = true := by kernel_rfl
theorem ok_patoisref4_Kernel_Reads : okFun Tryd.prog gl Tryd.f30 a_patoisref4_Kernel_Reads = true := by kernel_rfl
theorem ok_patoisref4_Kernel_Open : okFun Tryd.prog gl Tryd.f31 a_patoisref4_Kernel_Open = true := by kernel_rfl
theorem ok_patoisref4_Kernel_Write : okFun Tryd.prog gl Tryd.f32 a_patoisref4_Kernel_Write = true := by kernel_rfl
theorem ok_patoisref4_Kernel_Mark : okFun Tryd.prog gl Tryd.f33 a_patoisref4_Kernel_Mark = true := by kernel_rfl
theorem ok_patoisref_SameFiles : okFun Tryd.prog gl Tryd.f34 a_patoisref_SameFiles = true := by kernel_rfl
theorem ok_patoisref4_Kernel_Names : okFun Tryd.prog gl Tryd.f35 a_patoisref4_Kernel_Names = true := by kernel_rfl
theorem ok_patoisref4_Erase : okFun Tryd.prog gl Tryd.f36 a_patoisref4_Erase = true := by kernel_rfl
theorem ok_world_Begins : okFun Tryd.prog gl Tryd.f37 a_world_Begins = true := by kernel_rfl
theorem ok_patoisref4_Begins : okFun Tryd.prog gl Tryd.f38 a_patoisref4_Begins = true := by kernel_rfl
theorem ok_world_SameEvents : okFun Tryd.prog gl Tryd.f39 a_world_SameEvents = true := by kernel_rfl
theorem ok_slices_Clone_api_File_api_File : okFun Tryd.prog gl Tryd.f40 a_slices_Clone_api_File_api_File = true := by kernel_rfl
theorem ok_slices_SortFunc_api_File_api_File : okFun Tryd.prog gl Tryd.f41 a_slices_SortFunc_api_File_api_File = true := by kernel_rfl
theorem ok_world_byName : okFun Tryd.prog gl Tryd.f42 a_world_byName = true := by kernel_rfl
theorem ok_slices_Clone_string_string : okFun Tryd.prog gl Tryd.f43 a_slices_Clone_string_string = true := by kernel_rfl
theorem ok_world_Kernel_file : okFun Tryd.prog gl Tryd.f44 a_world_Kernel_file = true := by kernel_rfl
theorem ok_world_asked_note : okFun Tryd.prog gl Tryd.f45 a_world_asked_note = true := by kernel_rfl
theorem ok_world_Kernel_made : okFun Tryd.prog gl Tryd.f46 a_world_Kernel_made = true := by kernel_rfl
theorem ok_world_Kernel_row : okFun Tryd.prog gl Tryd.f47 a_world_Kernel_row = true := by kernel_rfl
theorem ok_world_copied : okFun Tryd.prog gl Tryd.f48 a_world_copied = true := by kernel_rfl
theorem ok_patoisref_SameEvent : okFun Tryd.prog gl Tryd.f49 a_patoisref_SameEvent = true := by kernel_rfl
theorem ok_slices_DeleteFunc_api_Event_api_Event : okFun Tryd.prog gl Tryd.f50 a_slices_DeleteFunc_api_Event_api_Event = true := by kernel_rfl
theorem ok_world_Erase_1 : okFun Tryd.prog gl Tryd.f51 a_world_Erase_1 = true := by kernel_rfl
theorem ok_patoissee_Same : okFun Tryd.prog gl Tryd.f52 a_patoissee_Same = true := by kernel_rfl
theorem ok_patoisref_Bare : okFun Tryd.prog gl Tryd.f53 a_patoisref_Bare = true := by kernel_rfl
theorem ok_slices_ContainsFunc_string_string : okFun Tryd.prog gl Tryd.f54 a_slices_ContainsFunc_string_string = true := by kernel_rfl
theorem ok_world_May_1 : okFun Tryd.prog gl Tryd.f55 a_world_May_1 = true := by kernel_rfl
theorem ok_patoisref4_Kernel_put : okFun Tryd.prog gl Tryd.f56 a_patoisref4_Kernel_put = true := by kernel_rfl
theorem ok_patoisref4_Kernel_row : okFun Tryd.prog gl Tryd.f57 a_patoisref4_Kernel_row = true := by kernel_rfl
theorem ok_patoisref4_Kernel_find : okFun Tryd.prog gl Tryd.f58 a_patoisref4_Kernel_find = true := by kernel_rfl
theorem ok_patoisref_SameFile : okFun Tryd.prog gl Tryd.f59 a_patoisref_SameFile = true := by kernel_rfl
theorem ok_slices_EqualFunc_api_Event_api_Event_api_Event_api_Event : okFun Tryd.prog gl Tryd.f60 a_slices_EqualFunc_api_Event_api_Event_api_Event_api_Event = true := by kernel_rfl
theorem ok_world_same : okFun Tryd.prog gl Tryd.f61 a_world_same = true := by kernel_rfl
theorem ok_slices_pdqsortCmpFunc_api_File : okFun Tryd.prog gl Tryd.f62 a_slices_pdqsortCmpFunc_api_File = true := by kernel_rfl
theorem ok_math_bits_Len : okFun Tryd.prog gl Tryd.f63 a_math_bits_Len = true := by kernel_rfl
theorem ok_strings_Compare : okFun Tryd.prog gl Tryd.f64 a_strings_Compare = true := by kernel_rfl
theorem ok_slices_BinarySearchFunc_api_File_api_File_api_File : okFun Tryd.prog gl Tryd.f65 a_slices_BinarySearchFunc_api_File_api_File_api_File = true := by kernel_rfl
theorem ok_slices_Insert_api_File_api_File : okFun Tryd.prog gl Tryd.f66 a_slices_Insert_api_File_api_File = true := by kernel_rfl
theorem ok_slices_Equal_string_string : okFun Tryd.prog gl Tryd.f67 a_slices_Equal_string_string = true := by kernel_rfl
theorem ok_slices_IndexFunc_api_Event_api_Event : okFun Tryd.prog gl Tryd.f68 a_slices_IndexFunc_api_Event_api_Event = true := by kernel_rfl
theorem ok_patoissee_Fault : okFun Tryd.prog gl Tryd.f69 a_patoissee_Fault = true := by kernel_rfl
theorem ok_patoisref_SameFault : okFun Tryd.prog gl Tryd.f70 a_patoisref_SameFault = true := by kernel_rfl
theorem ok_slices_IndexFunc_string_string : okFun Tryd.prog gl Tryd.f71 a_slices_IndexFunc_string_string = true := by kernel_rfl
theorem ok_slices_insertionSortCmpFunc_api_File : okFun Tryd.prog gl Tryd.f72 a_slices_insertionSortCmpFunc_api_File = true := by kernel_rfl
theorem ok_math_bits_Len32 : okFun Tryd.prog gl Tryd.f80 a_math_bits_Len32 = true := by kernel_rfl
theorem ok_math_bits_Len64 : okFun Tryd.prog gl Tryd.f81 a_math_bits_Len64 = true := by kernel_rfl
theorem ok_patoisref_None : okFun Tryd.prog gl Tryd.f85 a_patoisref_None = true := by kernel_rfl
theorem ok_patoissee_fault : okFun Tryd.prog gl Tryd.f86 a_patoissee_fault = true := by kernel_rfl
theorem ok_patoisref_SameInts : okFun Tryd.prog gl Tryd.f87 a_patoisref_SameInts = true := by kernel_rfl
theorem ok_patoissee_sentinel : okFun Tryd.prog gl Tryd.f96 a_patoissee_sentinel = true := by kernel_rfl
theorem ok_patoissee_Alike : okFun Tryd.prog gl Tryd.f100 a_patoissee_Alike = true := by kernel_rfl
end Go.Proofs.YtlecbjcloleiiaaDoor.Ram
