/-
  Parts of the proof: RamU.
-/
import Derived.Test.YtbpgbhmibmcbnaaGreatDoorMgc
import Derived.Test.YtbpgbhmibmcbnaaGreatDoorMgf
import Derived.Test.YtbpgbhmibmcbnaaGreatDoorChecked
import Derived.KernelRfl
/-! The functions stand to the program. By program (gen2.py). -/
namespace Go.Proofs.YtbpgbhmibmcbnaaGreatDoor.Ram
open Go

def gl : List Nat := [G_api_ErrDeep, G_api_ErrBig, G_api_ErrFuel, G_api_ErrMany, G_errors_errorType, G_api_ErrNode, G_api_ErrNest, G_api_ErrNumber, G_api_ErrName, G_api_ErrLong, G_internal_bytealg_MaxLen, 1050, 1051, 1052, 1053, 1055, 1056, 1057, 1058, 1059]
theorem ok_patoislaw9_RunWhiles : okFun Tryz.prog gl Tryz.f4 a_patoislaw9_RunWhiles = true := by kernel_rfl
theorem ok_patoislaw9_first : okFun Tryz.prog gl Tryz.f8 a_patoislaw9_first = true := by kernel_rfl
theorem ok_core_Lit : okFun Tryz.prog gl Tryz.f9 a_core_Lit = true := by kernel_rfl
theorem ok_core_New : okFun Tryz.prog gl Tryz.f10 a_core_New = true := by kernel_rfl
theorem ok_patoislaw9_call : okFun Tryz.prog gl Tryz.f11 a_patoislaw9_call = true := by kernel_rfl
theorem ok_patoislaw9_plain : okFun Tryz.prog gl Tryz.f12 a_patoislaw9_plain = true := by kernel_rfl
theorem ok_run_Defaults : okFun Tryz.prog gl Tryz.f13 a_run_Defaults = true := by kernel_rfl
theorem ok_patoisref_SameTexts : okFun Tryz.prog gl Tryz.f14 a_patoisref_SameTexts = true := by kernel_rfl
theorem ok_run_Run : okFun Tryz.prog gl Tryz.f18 a_run_Run = true := by kernel_rfl
theorem ok_slices_Clone_api_Node_api_Node : okFun Tryz.prog gl Tryz.f19 a_slices_Clone_api_Node_api_Node = true := by kernel_rfl
theorem ok_core_Check : okFun Tryz.prog gl Tryz.f21 a_core_Check = true := by kernel_rfl
theorem ok_run_begin : okFun Tryz.prog gl Tryz.f22 a_run_begin = true := by kernel_rfl
theorem ok_run_runner_do : okFun Tryz.prog gl Tryz.f23 a_run_runner_do = true := by kernel_rfl
theorem ok_world_asked_Trace : okFun Tryz.prog gl Tryz.f24 a_world_asked_Trace = true := by kernel_rfl
theorem ok_store_values_Vars : okFun Tryz.prog gl Tryz.f25 a_store_values_Vars = true := by kernel_rfl
theorem ok_world_Kernel_Files : okFun Tryz.prog gl Tryz.f26 a_world_Kernel_Files = true := by kernel_rfl
theorem ok_core_look : okFun Tryz.prog gl Tryz.f32 a_core_look = true := by kernel_rfl
theorem ok_world_New : okFun Tryz.prog gl Tryz.f33 a_world_New = true := by kernel_rfl
theorem ok_run_Options_may : okFun Tryz.prog gl Tryz.f34 a_run_Options_may = true := by kernel_rfl
theorem ok_store_New : okFun Tryz.prog gl Tryz.f35 a_store_New = true := by kernel_rfl
theorem ok_store_values_SetArgs : okFun Tryz.prog gl Tryz.f36 a_store_values_SetArgs = true := by kernel_rfl
theorem ok_run_kids : okFun Tryz.prog gl Tryz.f37 a_run_kids = true := by kernel_rfl
theorem ok_run_runner_seq : okFun Tryz.prog gl Tryz.f38 a_run_runner_seq = true := by kernel_rfl
theorem ok_run_runner_while : okFun Tryz.prog gl Tryz.f42 a_run_runner_while = true := by kernel_rfl
theorem ok_run_runner_step : okFun Tryz.prog gl Tryz.f43 a_run_runner_step = true := by kernel_rfl
theorem ok_run_runner_together : okFun Tryz.prog gl Tryz.f44 a_run_runner_together = true := by kernel_rfl
theorem ok_lists_Cat : okFun Tryz.prog gl Tryz.f45 a_lists_Cat = true := by kernel_rfl
theorem ok_run_runner_call : okFun Tryz.prog gl Tryz.f46 a_run_runner_call = true := by kernel_rfl
theorem ok_store_functions_SetFun : okFun Tryz.prog gl Tryz.f47 a_store_functions_SetFun = true := by kernel_rfl
theorem ok_run_runner_pipe : okFun Tryz.prog gl Tryz.f49 a_run_runner_pipe = true := by kernel_rfl
theorem ok_world_copied : okFun Tryz.prog gl Tryz.f53 a_world_copied = true := by kernel_rfl
theorem ok_maps_Keys_map_string_string_string_string : okFun Tryz.prog gl Tryz.f55 a_maps_Keys_map_string_string_string_string = true := by kernel_rfl
theorem ok_slices_Clone_string_string : okFun Tryz.prog gl Tryz.f56 a_slices_Clone_string_string = true := by kernel_rfl
theorem ok_slices_Clone_api_File_api_File : okFun Tryz.prog gl Tryz.f57 a_slices_Clone_api_File_api_File = true := by kernel_rfl
theorem ok_core_Word : okFun Tryz.prog gl Tryz.f65 a_core_Word = true := by kernel_rfl
theorem ok_core_Command : okFun Tryz.prog gl Tryz.f66 a_core_Command = true := by kernel_rfl
theorem ok_core_fields : okFun Tryz.prog gl Tryz.f67 a_core_fields = true := by kernel_rfl
theorem ok_core_children : okFun Tryz.prog gl Tryz.f68 a_core_children = true := by kernel_rfl
theorem ok_core_takes : okFun Tryz.prog gl Tryz.f70 a_core_takes = true := by kernel_rfl
theorem ok_world_May : okFun Tryz.prog gl Tryz.f71 a_world_May = true := by kernel_rfl
theorem ok_slices_SortFunc_api_File_api_File : okFun Tryz.prog gl Tryz.f72 a_slices_SortFunc_api_File_api_File = true := by kernel_rfl
theorem ok_lists_Fits : okFun Tryz.prog gl Tryz.f74 a_lists_Fits = true := by kernel_rfl
theorem ok_text_Name : okFun Tryz.prog gl Tryz.f75 a_text_Name = true := by kernel_rfl
theorem ok_store_values_Set : okFun Tryz.prog gl Tryz.f76 a_store_values_Set = true := by kernel_rfl
theorem ok_run_runner_word : okFun Tryz.prog gl Tryz.f77 a_run_runner_word = true := by kernel_rfl
theorem ok_lists_bound : okFun Tryz.prog gl Tryz.f78 a_lists_bound = true := by kernel_rfl
theorem ok_store_functions_Fun : okFun Tryz.prog gl Tryz.f79 a_store_functions_Fun = true := by kernel_rfl
theorem ok_run_runner_frame : okFun Tryz.prog gl Tryz.f80 a_run_runner_frame = true := by kernel_rfl
theorem ok_builtin_Do : okFun Tryz.prog gl Tryz.f81 a_builtin_Do = true := by kernel_rfl
theorem ok_run_runner_exec : okFun Tryz.prog gl Tryz.f82 a_run_runner_exec = true := by kernel_rfl
theorem ok_run_runner_say : okFun Tryz.prog gl Tryz.f83 a_run_runner_say = true := by kernel_rfl
theorem ok_world_asked_Mark : okFun Tryz.prog gl Tryz.f86 a_world_asked_Mark = true := by kernel_rfl
theorem ok_run_runner_pipe_1 : okFun Tryz.prog gl Tryz.f87 a_run_runner_pipe_1 = true := by kernel_rfl
theorem ok_run_runner_catch : okFun Tryz.prog gl Tryz.f88 a_run_runner_catch = true := by kernel_rfl
theorem ok_core_named : okFun Tryz.prog gl Tryz.f104 a_core_named = true := by kernel_rfl
theorem ok_slices_ContainsFunc_string_string : okFun Tryz.prog gl Tryz.f105 a_slices_ContainsFunc_string_string = true := by kernel_rfl
theorem ok_world_May_1 : okFun Tryz.prog gl Tryz.f106 a_world_May_1 = true := by kernel_rfl
theorem ok_slices_pdqsortCmpFunc_api_File : okFun Tryz.prog gl Tryz.f107 a_slices_pdqsortCmpFunc_api_File = true := by kernel_rfl
theorem ok_math_bits_Len : okFun Tryz.prog gl Tryz.f108 a_math_bits_Len = true := by kernel_rfl
theorem ok_lists_Fits_1 : okFun Tryz.prog gl Tryz.f110 a_lists_Fits_1 = true := by kernel_rfl
theorem ok_text_begins : okFun Tryz.prog gl Tryz.f111 a_text_begins = true := by kernel_rfl
theorem ok_text_goesOn : okFun Tryz.prog gl Tryz.f112 a_text_goesOn = true := by kernel_rfl
theorem ok_store_values_Get : okFun Tryz.prog gl Tryz.f113 a_store_values_Get = true := by kernel_rfl
theorem ok_run_runner_deeper : okFun Tryz.prog gl Tryz.f124 a_run_runner_deeper = true := by kernel_rfl
theorem ok_run_runner_frame_1 : okFun Tryz.prog gl Tryz.f125 a_run_runner_frame_1 = true := by kernel_rfl
theorem ok_builtin_commands : okFun Tryz.prog gl Tryz.f126 a_builtin_commands = true := by kernel_rfl
theorem ok_world_Kernel_Exec : okFun Tryz.prog gl Tryz.f127 a_world_Kernel_Exec = true := by kernel_rfl
theorem ok_world_Kernel_Reads : okFun Tryz.prog gl Tryz.f128 a_world_Kernel_Reads = true := by kernel_rfl
theorem ok_world_Kernel_Write : okFun Tryz.prog gl Tryz.f129 a_world_Kernel_Write = true := by kernel_rfl
theorem ok_world_asked_note : okFun Tryz.prog gl Tryz.f131 a_world_asked_note = true := by kernel_rfl
theorem ok_slices_Contains_int_int : okFun Tryz.prog gl Tryz.f144 a_slices_Contains_int_int = true := by kernel_rfl
theorem ok_slices_IndexFunc_string_string : okFun Tryz.prog gl Tryz.f145 a_slices_IndexFunc_string_string = true := by kernel_rfl
theorem ok_slices_insertionSortCmpFunc_api_File : okFun Tryz.prog gl Tryz.f146 a_slices_insertionSortCmpFunc_api_File = true := by kernel_rfl
theorem ok_math_bits_Len64 : okFun Tryz.prog gl Tryz.f155 a_math_bits_Len64 = true := by kernel_rfl
theorem ok_store_values_Args : okFun Tryz.prog gl Tryz.f157 a_store_values_Args = true := by kernel_rfl
theorem ok_strings_Join : okFun Tryz.prog gl Tryz.f170 a_strings_Join = true := by kernel_rfl
theorem ok_builtin_cat : okFun Tryz.prog gl Tryz.f173 a_builtin_cat = true := by kernel_rfl
theorem ok_builtin_echo : okFun Tryz.prog gl Tryz.f174 a_builtin_echo = true := by kernel_rfl
theorem ok_builtin_put : okFun Tryz.prog gl Tryz.f180 a_builtin_put = true := by kernel_rfl
theorem ok_builtin_read : okFun Tryz.prog gl Tryz.f181 a_builtin_read = true := by kernel_rfl
theorem ok_builtin_yes : okFun Tryz.prog gl Tryz.f182 a_builtin_yes = true := by kernel_rfl
theorem ok_world_Kernel_row : okFun Tryz.prog gl Tryz.f183 a_world_Kernel_row = true := by kernel_rfl
theorem ok_internal_stringslite_IndexByte : okFun Tryz.prog gl Tryz.f197 a_internal_stringslite_IndexByte = true := by kernel_rfl
theorem ok_slices_Index_int_int : okFun Tryz.prog gl Tryz.f198 a_slices_Index_int_int = true := by kernel_rfl
theorem ok_builtin_Outcome_test : okFun Tryz.prog gl Tryz.f218 a_builtin_Outcome_test = true := by kernel_rfl
theorem ok_strings_Cut : okFun Tryz.prog gl Tryz.f220 a_strings_Cut = true := by kernel_rfl
theorem ok_slices_Equal_string_string : okFun Tryz.prog gl Tryz.f221 a_slices_Equal_string_string = true := by kernel_rfl
theorem ok_internal_stringslite_Cut : okFun Tryz.prog gl Tryz.f235 a_internal_stringslite_Cut = true := by kernel_rfl
theorem ok_internal_stringslite_Index : okFun Tryz.prog gl Tryz.f242 a_internal_stringslite_Index = true := by kernel_rfl
end Go.Proofs.YtbpgbhmibmcbnaaGreatDoor.Ram
