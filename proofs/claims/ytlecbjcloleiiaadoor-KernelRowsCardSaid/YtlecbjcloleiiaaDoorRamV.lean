import Derived.Test.YtlecbjcloleiiaaDoorRamU
import Derived.Test.YtlecbjcloleiiaaDoorRamP
/-! The table. By program (gen2.py). -/
namespace Go.Proofs.YtlecbjcloleiiaaDoor.Ram
open Go

def entries : List (Nat × ADef) := [(F_patoislaw4_KernelFiles, .code a_patoislaw4_KernelFiles), (F_patoislaw4_KernelOwn, .code a_patoislaw4_KernelOwn), (F_patoislaw4_KernelRows, .code a_patoislaw4_KernelRows), (F_patoislaw4_KernelMarks, .code a_patoislaw4_KernelMarks), (F_patoislaw4_KernelPlays, .code a_patoislaw4_KernelPlays), (F_patoislaw4_KernelBegins, .code a_patoislaw4_KernelBegins), (F_patoislaw4_first, .code a_patoislaw4_first), (F_world_New, .code a_world_New), (F_world_Kernel_Open, .code a_world_Kernel_Open), (F_world_Kernel_Write, .code a_world_Kernel_Write), (F_world_Kernel_Names, .code a_world_Kernel_Names), (F_patoisref_Texts, .code a_patoisref_Texts), (F_world_Kernel_Exec, .code a_world_Kernel_Exec), (F_world_asked_Trace, .code a_world_asked_Trace), (F_world_Kernel_Files, .code a_world_Kernel_Files), (F_patoisref_SameTexts, .code a_patoisref_SameTexts), (F_world_Kernel_Reads, .code a_world_Kernel_Reads), (F_world_asked_Mark, .code a_world_asked_Mark), (F_patoisref_SameEvents, .code a_patoisref_SameEvents), (F_world_Erase, .code a_world_Erase), (F_world_asked_Len, .code a_world_asked_Len), (F_patoislaw4_light, .code a_patoislaw4_light), (F_patoisref4_May, .code a_patoisref4_May), (F_patoissee_Is, .code a_patoissee_Is), (F_world_May, .code a_world_May), (F_patoisref4_New, .code a_patoisref4_New), (F_patoisref4_Kernel_Exec, .code a_patoisref4_Kernel_Exec), (F_patoisref4_Kernel_Reads, .code a_patoisref4_Kernel_Reads), (F_patoisref4_Kernel_Open, .code a_patoisref4_Kernel_Open), (F_patoisref4_Kernel_Write, .code a_patoisref4_Kernel_Write), (F_patoisref4_Kernel_Mark, .code a_patoisref4_Kernel_Mark), (F_patoisref_SameFiles, .code a_patoisref_SameFiles), (F_patoisref4_Kernel_Names, .code a_patoisref4_Kernel_Names), (F_patoisref4_Erase, .code a_patoisref4_Erase), (F_world_Begins, .code a_world_Begins), (F_patoisref4_Begins, .code a_patoisref4_Begins), (F_world_SameEvents, .code a_world_SameEvents), (F_slices_Clone_api_File_api_File, .code a_slices_Clone_api_File_api_File), (F_slices_SortFunc_api_File_api_File, .code a_slices_SortFunc_api_File_api_File), (F_world_byName, .code a_world_byName), (F_slices_Clone_string_string, .code a_slices_Clone_string_string), (F_world_Kernel_file, .code a_world_Kernel_file), (F_world_asked_note, .code a_world_asked_note), (F_world_Kernel_made, .code a_world_Kernel_made), (F_world_Kernel_row, .code a_world_Kernel_row), (F_world_copied, .code a_world_copied), (F_patoisref_SameEvent, .code a_patoisref_SameEvent), (F_slices_DeleteFunc_api_Event_api_Event, .code a_slices_DeleteFunc_api_Event_api_Event), (F_world_Erase_1, .code a_world_Erase_1), (F_patoissee_Same, .code a_patoissee_Same), (F_patoisref_Bare, .code a_patoisref_Bare), (F_slices_ContainsFunc_string_string, .code a_slices_ContainsFunc_string_string), (F_world_May_1, .code a_world_May_1), (F_patoisref4_Kernel_put, .code a_patoisref4_Kernel_put), (F_patoisref4_Kernel_row, .code a_patoisref4_Kernel_row), (F_patoisref4_Kernel_find, .code a_patoisref4_Kernel_find), (F_patoisref_SameFile, .code a_patoisref_SameFile), (F_slices_EqualFunc_api_Event_api_Event_api_Event_api_Event, .code a_slices_EqualFunc_api_Event_api_Event_api_Event_api_Event), (F_world_same, .code a_world_same), (F_slices_pdqsortCmpFunc_api_File, .code a_slices_pdqsortCmpFunc_api_File), (F_math_bits_Len, .code a_math_bits_Len), (F_strings_Compare, .code a_strings_Compare), (F_slices_BinarySearchFunc_api_File_api_File_api_File, .code a_slices_BinarySearchFunc_api_File_api_File_api_File), (F_slices_Insert_api_File_api_File, .code a_slices_Insert_api_File_api_File), (F_slices_Equal_string_string, .code a_slices_Equal_string_string), (F_slices_IndexFunc_api_Event_api_Event, .code a_slices_IndexFunc_api_Event_api_Event), (F_patoissee_Fault, .code a_patoissee_Fault), (F_patoisref_SameFault, .code a_patoisref_SameFault), (F_slices_IndexFunc_string_string, .code a_slices_IndexFunc_string_string), (F_slices_insertionSortCmpFunc_api_File, .code a_slices_insertionSortCmpFunc_api_File), (F_math_bits_Len32, .code a_math_bits_Len32), (F_math_bits_Len64, .code a_math_bits_Len64), (F_patoisref_None, .code a_patoisref_None), (F_patoissee_fault, .code a_patoissee_fault), (F_patoisref_SameInts, .code a_patoisref_SameInts), (F_patoissee_sentinel, .code a_patoissee_sentinel), (F_patoissee_Alike, .code a_patoissee_Alike), (F_internal_bytealg_CompareString, .prim cmpP)]
def T : Tab := ⟨⟨[Ty_perrors_errorString]⟩, fun f => (entries.find? fun p => p.1 == f).map (·.2)⟩
theorem T_patoislaw4_KernelFiles : T.fn F_patoislaw4_KernelFiles = some (.code a_patoislaw4_KernelFiles) := rfl
theorem T_patoislaw4_KernelOwn : T.fn F_patoislaw4_KernelOwn = some (.code a_patoislaw4_KernelOwn) := rfl
theorem T_patoislaw4_KernelRows : T.fn F_patoislaw4_KernelRows = some (.code a_patoislaw4_KernelRows) := rfl
theorem T_patoislaw4_KernelMarks : T.fn F_patoislaw4_KernelMarks = some (.code a_patoislaw4_KernelMarks) := rfl
theorem T_patoislaw4_KernelPlays : T.fn F_patoislaw4_KernelPlays = some (.code a_patoislaw4_KernelPlays) := rfl
theorem T_patoislaw4_KernelBegins : T.fn F_patoislaw4_KernelBegins = some (.code a_patoislaw4_KernelBegins) := rfl
theorem T_patoislaw4_first : T.fn F_patoislaw4_first = some (.code a_patoislaw4_first) := rfl
theorem T_world_New : T.fn F_world_New = some (.code a_world_New) := rfl
theorem T_world_Kernel_Open : T.fn F_world_Kernel_Open = some (.code a_world_Kernel_Open) := rfl
theorem T_world_Kernel_Write : T.fn F_world_Kernel_Write = some (.code a_world_Kernel_Write) := rfl
theorem T_world_Kernel_Names : T.fn F_world_Kernel_Names = some (.code a_world_Kernel_Names) := rfl
theorem T_patoisref_Texts : T.fn F_patoisref_Texts = some (.code a_patoisref_Texts) := rfl
theorem T_world_Kernel_Exec : T.fn F_world_Kernel_Exec = some (.code a_world_Kernel_Exec) := rfl
theorem T_world_asked_Trace : T.fn F_world_asked_Trace = some (.code a_world_asked_Trace) := rfl
theorem T_world_Kernel_Files : T.fn F_world_Kernel_Files = some (.code a_world_Kernel_Files) := rfl
theorem T_patoisref_SameTexts : T.fn F_patoisref_SameTexts = some (.code a_patoisref_SameTexts) := rfl
theorem T_world_Kernel_Reads : T.fn F_world_Kernel_Reads = some (.code a_world_Kernel_Reads) := rfl
theorem T_world_asked_Mark : T.fn F_world_asked_Mark = some (.code a_world_asked_Mark) := rfl
theorem T_patoisref_SameEvents : T.fn F_patoisref_SameEvents = some (.code a_patoisref_SameEvents) := rfl
theorem T_world_Erase : T.fn F_world_Erase = some (.code a_world_Erase) := rfl
theorem T_world_asked_Len : T.fn F_world_asked_Len = some (.code a_world_asked_Len) := rfl
theorem T_patoislaw4_light : T.fn F_patoislaw4_light = some (.code a_patoislaw4_light) := rfl
theorem T_patoisref4_May : T.fn F_patoisref4_May = some (.code a_patoisref4_May) := rfl
theorem T_patoissee_Is : T.fn F_patoissee_Is = some (.code a_patoissee_Is) := rfl
theorem T_world_May : T.fn F_world_May = some (.code a_world_May) := rfl
theorem T_patoisref4_New : T.fn F_patoisref4_New = some (.code a_patoisref4_New) := rfl
theorem T_patoisref4_Kernel_Exec : T.fn F_patoisref4_Kernel_Exec = some (.code a_patoisref4_Kernel_Exec) := rfl
theorem T_patoisref4_Kernel_Reads : T.fn F_patoisref4_Kernel_Reads = some (.code a_patoisref4_Kernel_Reads) := rfl
theorem T_patoisref4_Kernel_Open : T.fn F_patoisref4_Kernel_Open = some (.code a_patoisref4_Kernel_Open) := rfl
theorem T_patoisref4_Kernel_Write : T.fn F_patoisref4_Kernel_Write = some (.code a_patoisref4_Kernel_Write) := rfl
theorem T_patoisref4_Kernel_Mark : T.fn F_patoisref4_Kernel_Mark = some (.code a_patoisref4_Kernel_Mark) := rfl
theorem T_patoisref_SameFiles : T.fn F_patoisref_SameFiles = some (.code a_patoisref_SameFiles) := rfl
theorem T_patoisref4_Kernel_Names : T.fn F_patoisref4_Kernel_Names = some (.code a_patoisref4_Kernel_Names) := rfl
theorem T_patoisref4_Erase : T.fn F_patoisref4_Erase = some (.code a_patoisref4_Erase) := rfl
theorem T_world_Begins : T.fn F_world_Begins = some (.code a_world_Begins) := rfl
theorem T_patoisref4_Begins : T.fn F_patoisref4_Begins = some (.code a_patoisref4_Begins) := rfl
theorem T_world_SameEvents : T.fn F_world_SameEvents = some (.code a_world_SameEvents) := rfl
theorem T_slices_Clone_api_File_api_File : T.fn F_slices_Clone_api_File_api_File = some (.code a_slices_Clone_api_File_api_File) := rfl
theorem T_slices_SortFunc_api_File_api_File : T.fn F_slices_SortFunc_api_File_api_File = some (.code a_slices_SortFunc_api_File_api_File) := rfl
theorem T_world_byName : T.fn F_world_byName = some (.code a_world_byName) := rfl
theorem T_slices_Clone_string_string : T.fn F_slices_Clone_string_string = some (.code a_slices_Clone_string_string) := rfl
theorem T_world_Kernel_file : T.fn F_world_Kernel_file = some (.code a_world_Kernel_file) := rfl
theorem T_world_asked_note : T.fn F_world_asked_note = some (.code a_world_asked_note) := rfl
theorem T_world_Kernel_made : T.fn F_world_Kernel_made = some (.code a_world_Kernel_made) := rfl
theorem T_world_Kernel_row : T.fn F_world_Kernel_row = some (.code a_world_Kernel_row) := rfl
theorem T_world_copied : T.fn F_world_copied = some (.code a_world_copied) := rfl
theorem T_patoisref_SameEvent : T.fn F_patoisref_SameEvent = some (.code a_patoisref_SameEvent) := rfl
theorem T_slices_DeleteFunc_api_Event_api_Event : T.fn F_slices_DeleteFunc_api_Event_api_Event = some (.code a_slices_DeleteFunc_api_Event_api_Event) := rfl
theorem T_world_Erase_1 : T.fn F_world_Erase_1 = some (.code a_world_Erase_1) := rfl
theorem T_patoissee_Same : T.fn F_patoissee_Same = some (.code a_patoissee_Same) := rfl
theorem T_patoisref_Bare : T.fn F_patoisref_Bare = some (.code a_patoisref_Bare) := rfl
theorem T_slices_ContainsFunc_string_string : T.fn F_slices_ContainsFunc_string_string = some (.code a_slices_ContainsFunc_string_string) := rfl
theorem T_world_May_1 : T.fn F_world_May_1 = some (.code a_world_May_1) := rfl
theorem T_patoisref4_Kernel_put : T.fn F_patoisref4_Kernel_put = some (.code a_patoisref4_Kernel_put) := rfl
theorem T_patoisref4_Kernel_row : T.fn F_patoisref4_Kernel_row = some (.code a_patoisref4_Kernel_row) := rfl
theorem T_patoisref4_Kernel_find : T.fn F_patoisref4_Kernel_find = some (.code a_patoisref4_Kernel_find) := rfl
theorem T_patoisref_SameFile : T.fn F_patoisref_SameFile = some (.code a_patoisref_SameFile) := rfl
theorem T_slices_EqualFunc_api_Event_api_Event_api_Event_api_Event : T.fn F_slices_EqualFunc_api_Event_api_Event_api_Event_api_Event = some (.code a_slices_EqualFunc_api_Event_api_Event_api_Event_api_Event) := rfl
theorem T_world_same : T.fn F_world_same = some (.code a_world_same) := rfl
theorem T_slices_pdqsortCmpFunc_api_File : T.fn F_slices_pdqsortCmpFunc_api_File = some (.code a_slices_pdqsortCmpFunc_api_File) := rfl
theorem T_math_bits_Len : T.fn F_math_bits_Len = some (.code a_math_bits_Len) := rfl
theorem T_strings_Compare : T.fn F_strings_Compare = some (.code a_strings_Compare) := rfl
theorem T_slices_BinarySearchFunc_api_File_api_File_api_File : T.fn F_slices_BinarySearchFunc_api_File_api_File_api_File = some (.code a_slices_BinarySearchFunc_api_File_api_File_api_File) := rfl
theorem T_slices_Insert_api_File_api_File : T.fn F_slices_Insert_api_File_api_File = some (.code a_slices_Insert_api_File_api_File) := rfl
theorem T_slices_Equal_string_string : T.fn F_slices_Equal_string_string = some (.code a_slices_Equal_string_string) := rfl
theorem T_slices_IndexFunc_api_Event_api_Event : T.fn F_slices_IndexFunc_api_Event_api_Event = some (.code a_slices_IndexFunc_api_Event_api_Event) := rfl
theorem T_patoissee_Fault : T.fn F_patoissee_Fault = some (.code a_patoissee_Fault) := rfl
theorem T_patoisref_SameFault : T.fn F_patoisref_SameFault = some (.code a_patoisref_SameFault) := rfl
theorem T_slices_IndexFunc_string_string : T.fn F_slices_IndexFunc_string_string = some (.code a_slices_IndexFunc_string_string) := rfl
theorem T_slices_insertionSortCmpFunc_api_File : T.fn F_slices_insertionSortCmpFunc_api_File = some (.code a_slices_insertionSortCmpFunc_api_File) := rfl
theorem T_math_bits_Len32 : T.fn F_math_bits_Len32 = some (.code a_math_bits_Len32) := rfl
theorem T_math_bits_Len64 : T.fn F_math_bits_Len64 = some (.code a_math_bits_Len64) := rfl
theorem T_patoisref_None : T.fn F_patoisref_None = some (.code a_patoisref_None) := rfl
theorem T_patoissee_fault : T.fn F_patoissee_fault = some (.code a_patoissee_fault) := rfl
theorem T_patoisref_SameInts : T.fn F_patoisref_SameInts = some (.code a_patoisref_SameInts) := rfl
theorem T_patoissee_sentinel : T.fn F_patoissee_sentinel = some (.code a_patoissee_sentinel) := rfl
theorem T_patoissee_Alike : T.fn F_patoissee_Alike = some (.code a_patoissee_Alike) := rfl
theorem T_internal_bytealg_CompareString : T.fn F_internal_bytealg_CompareString = some (.prim cmpP) := rfl
theorem okEntries : ∀ p ∈ entries, match p.2 with
    | .code F => ∃ fn, Tryd.prog.funcs[p.1]? = some fn ∧ okFun Tryd.prog gl fn F = true
    | .prim q => OSound Tryd.prog gl (fun g vs H => if g = p.1 then q vs H else none) ∧ ∀ vs H r, q vs H = some r → H.next ≤ r.2.next := by
  unfold entries
  simp only [List.forall_mem_cons]
  exact ⟨⟨_, Tryd.func3, ok_patoislaw4_KernelFiles⟩, ⟨_, Tryd.func4, ok_patoislaw4_KernelOwn⟩, ⟨_, Tryd.func5, ok_patoislaw4_KernelRows⟩, ⟨_, Tryd.func6, ok_patoislaw4_KernelMarks⟩, ⟨_, Tryd.func7, ok_patoislaw4_KernelPlays⟩, ⟨_, Tryd.func8, ok_patoislaw4_KernelBegins⟩, ⟨_, Tryd.func9, ok_patoislaw4_first⟩, ⟨_, Tryd.func10, ok_world_New⟩, ⟨_, Tryd.func11, ok_world_Kernel_Open⟩, ⟨_, Tryd.func12, ok_world_Kernel_Write⟩, ⟨_, Tryd.func13, ok_world_Kernel_Names⟩, ⟨_, Tryd.func14, ok_patoisref_Texts⟩, ⟨_, Tryd.func15, ok_world_Kernel_Exec⟩, ⟨_, Tryd.func16, ok_world_asked_Trace⟩, ⟨_, Tryd.func17, ok_world_Kernel_Files⟩, ⟨_, Tryd.func18, ok_patoisref_SameTexts⟩, ⟨_, Tryd.func19, ok_world_Kernel_Reads⟩, ⟨_, Tryd.func20, ok_world_asked_Mark⟩, ⟨_, Tryd.func21, ok_patoisref_SameEvents⟩, ⟨_, Tryd.func22, ok_world_Erase⟩, ⟨_, Tryd.func23, ok_world_asked_Len⟩, ⟨_, Tryd.func24, ok_patoislaw4_light⟩, ⟨_, Tryd.func25, ok_patoisref4_May⟩, ⟨_, Tryd.func26, ok_patoissee_Is⟩, ⟨_, Tryd.func27, ok_world_May⟩, ⟨_, Tryd.func28, ok_patoisref4_New⟩, ⟨_, Tryd.func29, ok_patoisref4_Kernel_Exec⟩, ⟨_, Tryd.func30, ok_patoisref4_Kernel_Reads⟩, ⟨_, Tryd.func31, ok_patoisref4_Kernel_Open⟩, ⟨_, Tryd.func32, ok_patoisref4_Kernel_Write⟩, ⟨_, Tryd.func33, ok_patoisref4_Kernel_Mark⟩, ⟨_, Tryd.func34, ok_patoisref_SameFiles⟩, ⟨_, Tryd.func35, ok_patoisref4_Kernel_Names⟩, ⟨_, Tryd.func36, ok_patoisref4_Erase⟩, ⟨_, Tryd.func37, ok_world_Begins⟩, ⟨_, Tryd.func38, ok_patoisref4_Begins⟩, ⟨_, Tryd.func39, ok_world_SameEvents⟩, ⟨_, Tryd.func40, ok_slices_Clone_api_File_api_File⟩, ⟨_, Tryd.func41, ok_slices_SortFunc_api_File_api_File⟩, ⟨_, Tryd.func42, ok_world_byName⟩, ⟨_, Tryd.func43, ok_slices_Clone_string_string⟩, ⟨_, Tryd.func44, ok_world_Kernel_file⟩, ⟨_, Tryd.func45, ok_world_asked_note⟩, ⟨_, Tryd.func46, ok_world_Kernel_made⟩, ⟨_, Tryd.func47, ok_world_Kernel_row⟩, ⟨_, Tryd.func48, ok_world_copied⟩, ⟨_, Tryd.func49, ok_patoisref_SameEvent⟩, ⟨_, Tryd.func50, ok_slices_DeleteFunc_api_Event_api_Event⟩, ⟨_, Tryd.func51, ok_world_Erase_1⟩, ⟨_, Tryd.func52, ok_patoissee_Same⟩, ⟨_, Tryd.func53, ok_patoisref_Bare⟩, ⟨_, Tryd.func54, ok_slices_ContainsFunc_string_string⟩, ⟨_, Tryd.func55, ok_world_May_1⟩, ⟨_, Tryd.func56, ok_patoisref4_Kernel_put⟩, ⟨_, Tryd.func57, ok_patoisref4_Kernel_row⟩, ⟨_, Tryd.func58, ok_patoisref4_Kernel_find⟩, ⟨_, Tryd.func59, ok_patoisref_SameFile⟩, ⟨_, Tryd.func60, ok_slices_EqualFunc_api_Event_api_Event_api_Event_api_Event⟩, ⟨_, Tryd.func61, ok_world_same⟩, ⟨_, Tryd.func62, ok_slices_pdqsortCmpFunc_api_File⟩, ⟨_, Tryd.func63, ok_math_bits_Len⟩, ⟨_, Tryd.func64, ok_strings_Compare⟩, ⟨_, Tryd.func65, ok_slices_BinarySearchFunc_api_File_api_File_api_File⟩, ⟨_, Tryd.func66, ok_slices_Insert_api_File_api_File⟩, ⟨_, Tryd.func67, ok_slices_Equal_string_string⟩, ⟨_, Tryd.func68, ok_slices_IndexFunc_api_Event_api_Event⟩, ⟨_, Tryd.func69, ok_patoissee_Fault⟩, ⟨_, Tryd.func70, ok_patoisref_SameFault⟩, ⟨_, Tryd.func71, ok_slices_IndexFunc_string_string⟩, ⟨_, Tryd.func72, ok_slices_insertionSortCmpFunc_api_File⟩, ⟨_, Tryd.func80, ok_math_bits_Len32⟩, ⟨_, Tryd.func81, ok_math_bits_Len64⟩, ⟨_, Tryd.func85, ok_patoisref_None⟩, ⟨_, Tryd.func86, ok_patoissee_fault⟩, ⟨_, Tryd.func87, ok_patoisref_SameInts⟩, ⟨_, Tryd.func96, ok_patoissee_sentinel⟩, ⟨_, Tryd.func100, ok_patoissee_Alike⟩, cmpPOk, fun p hp => absurd hp (by simp)⟩
theorem tabOk : TabOk Tryd.prog gl T where
  env := by kernel_rfl
  code := fun f F h => by
    simp only [T, Option.map_eq_some_iff] at h
    obtain ⟨p, h1, h2⟩ := h
    have h3 := okEntries p (List.mem_of_find?_eq_some h1)
    have h4 := List.find?_some h1
    obtain rfl : p.1 = f := by simpa using h4
    rw [h2] at h3
    exact h3
  prim := fun f q h => by
    simp only [T, Option.map_eq_some_iff] at h
    obtain ⟨p, h1, h2⟩ := h
    have h3 := okEntries p (List.mem_of_find?_eq_some h1)
    have h4 := List.find?_some h1
    obtain rfl : p.1 = f := by simpa using h4
    rw [h2] at h3
    exact h3
end Go.Proofs.YtlecbjcloleiiaaDoor.Ram
