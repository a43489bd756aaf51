/-
  Parts of the proof: RamP, RamV, RamW, RamX, ValT, ValN, KvA, KvB, KvC, KvD, KvE, KvF, KfA, KfB, KfC, KfD, KfL, KbA, KbB, KbL.
-/
import Derived.Test.YtlecbjcloleiiaaDoorMgg
import Derived.Lib.Strings
import Derived.Lib.Slices
import Derived.Lib.Walk
import Derived.Lib.Bytealg
import Derived.Test.YtlecbjcloleiiaaDoorMgf
import Derived.Test.YtlecbjcloleiiaaDoorMgb
/-! The functions of Go's library that are told by what they answer. -/
namespace Go.Proofs.YtlecbjcloleiiaaDoor.Ram
open Go Go.RowKit

set_option maxHeartbeats 1000000 in
set_option maxRecDepth 100000 in
theorem cmp_calls (a b : ByteArray) (w : World) :
    Calls Tryd.prog 82 #[.string a, .string b] w fun e w' => e = .returned (.int .i64 (Lib.compareBytes a.data.toList b.data.toList)) ∧ w' = w := by
  go_enter Tryd.func82, Tryd.ntmps82
  go_wp2
  rw [run_callFunc_extern Tryd.func93 (by kernel_rfl) (by kernel_rfl) (by kernel_rfl) (e := Extern.BytealgCompare.compare) (by kernel_rfl), Lib.run_compareString]
  simp only [Result.andThen]
  rw [Oper.upon_value]
  go_wp2
  go_ret
  exact ⟨rfl, rfl⟩

def cmpL (a b : List UInt8) : Int := Lib.compareBytes a b
def cmpP : List AV → AH → Option (AV × AH)
  | [.str a, .str b], H => some (.int .i64 (cmpL a b), H)
  | _, _ => none
theorem cmpPOk : OSound Tryd.prog gl (fun g vs H => if g = 82 then cmpP vs H else none) ∧ ∀ vs H r, cmpP vs H = some r → H.next ≤ r.2.next := by
  have key : ∀ vs H r, cmpP vs H = some r → ∃ a b, vs = [.str a, .str b] ∧ r = (.int .i64 (cmpL a b), H) := by
    intro vs H r h
    unfold cmpP at h
    split at h
    · rename_i a b; exact ⟨a, b, rfl, (Option.some.inj h).symm⟩
    · cases h
  refine ⟨fun f vs H r h m w cargs hG hh hv => ?_, fun vs H r h => ?_⟩
  · by_cases hf : f = 82
    · subst hf
      dsimp only at h; rw [if_pos rfl] at h
      obtain ⟨a, b, rfl, rfl⟩ := key _ _ _ h
      simp only [VRs, VR] at hv
      obtain ⟨_, _, hv, rfl, _, _, rfl, rfl, rfl⟩ := hv
      obtain rfl : cargs = #[.string ⟨⟨a⟩⟩, .string ⟨⟨b⟩⟩] := by rw [← Array.toArray_toList (xs := cargs), hv]
      refine ⟨⟨_, Tryd.func82, by unfold Tryd.f82; simp, by unfold Tryd.f82; simp⟩, ?_⟩
      refine (cmp_calls _ _ w).mono ?_
      rintro e w' ⟨rfl, rfl⟩
      exact ⟨_, m, rfl, by simp only [VR]; rfl, hh, Ext.refl _ _ _⟩
    · dsimp only at h; rw [if_neg hf] at h; cases h
  · obtain ⟨a, b, rfl, rfl⟩ := key _ _ _ h
    exact Nat.le_refl _
end Go.Proofs.YtlecbjcloleiiaaDoor.Ram

/-! The table. By program (gen2.py). -/
namespace Go.Proofs.YtlecbjcloleiiaaDoor.Ram
open Go

def entries : List (Nat × ADef) := [(F_patoislaw4_KernelFiles, .code a_patoislaw4_KernelFiles), (F_patoislaw4_KernelOwn, .code a_patoislaw4_KernelOwn), (F_patoislaw4_KernelRows, .code a_patoislaw4_KernelRows), (F_patoislaw4_KernelMarks, .code a_patoislaw4_KernelMarks), (F_patoislaw4_KernelPlays, .code a_patoislaw4_KernelPlays), (F_patoislaw4_KernelBegins, .code a_patoislaw4_KernelBegins), (F_patoislaw4_first, .code a_patoislaw4_first), (F_world_New, .code a_world_New), (F_world_Kernel_Open, .code a_world_Kernel_Open), (F_world_Kernel_Write, .code a_world_Kernel_Write), (F_world_Kernel_Names, .code a_world_Kernel_Names), (F_patoisref_Texts, .code a_patoisref_Texts), (F_world_Kernel_Exec, .code a_world_Kernel_Exec), (F_world_asked_Trace, .code a_world_asked_Trace), (F_world_Kernel_Files, .code a_world_Kernel_Files), (F_patoisref_SameTexts, .code a_patoisref_SameTexts), (F_world_Kernel_Reads, .code a_world_Kernel_Reads), (F_world_asked_Mark, .code a_world_asked_Mark), (F_patoisref_SameEvents, .code a_patoisref_SameEvents), (F_world_Erase, .code a_world_Erase), (F_world_asked_Len, .code a_world_asked_Len), (F_patoislaw4_light, .code a_patoislaw4_light), (F_patoisref4_May, .code a_patoisref4_May), (F_patoissee_Is, .code a_patoissee_Is), (F_world_May, .code a_world_May), (F_patoisref4_New, .code a_patoisref4_New), (F_patoisref4_Kernel_Exec, .code a_patoisref4_Kernel_Exec), (F_patoisref4_Kernel_Reads, .code a_patoisref4_Kernel_Reads), (F_patoisref4_Kernel_Open, .code a_patoisref4_Kernel_Open), (F_patoisref4_Kernel_Write, .code a_patoisref4_Kernel_Write), (F_patoisref4_Kernel_Mark, .code a_patoisref4_Kernel_Mark), (F_patoisref_SameFiles, .code a_patoisref_SameFiles), (F_patoisref4_Kernel_Names, .code a_patoisref4_Kernel_Names), (F_patoisref4_Erase, .code a_patoisref4_Erase), (F_world_Begins, .code a_world_Begins), (F_patoisref4_Begins, .code a_patoisref4_Begins), (F_world_SameEvents, .code a_world_SameEvents), (F_slices_Clone_api_File_api_File, .code a_slices_Clone_api_File_api_File), (F_slices_SortFunc_api_File_api_File, .code a_slices_SortFunc_api_File_api_File), (F_world_byName, .code a_world_byName), (F_slices_Clone_string_string, .code a_slices_Clone_string_string), (F_world_Kernel_file, .code a_world_Kernel_file), (F_world_asked_note, .code a_world_asked_note), (F_world_Kernel_made, .code a_world_Kernel_made), (F_world_Kernel_row, .code a_world_Kernel_row), (F_world_copied, .code a_world_copied), (F_patoisref_SameEvent, .code a_patoisref_SameEvent), (F_slices_DeleteFunc_api_Event_api_Event, .code a_slices_DeleteFunc_api_Event_api_Event), (F_world_Erase_1, .code a_world_Erase_1), (F_patoissee_Same, .code a_patoissee_Same), (F_patoisref_Bare, .code a_patoisref_Bare), (F_slices_ContainsFunc_string_string, .code a_slices_ContainsFunc_string_string), (F_world_May_1, .code a_world_May_1), (F_patoisref4_Kernel_put, .code a_patoisref4_Kernel_put), (F_patoisref4_Kernel_row, .code a_patoisref4_Kernel_row), (F_patoisref4_Kernel_find, .code a_patoisref4_Kernel_find), (F_patoisref_SameFile, .code a_patoisref_SameFile), (F_slices_EqualFunc_api_Event_api_Event_api_Event_api_Event, .code a_slices_EqualFunc_api_Event_api_Event_api_Event_api_Event), (F_world_same, .code a_world_same), (F_slices_pdqsortCmpFunc_api_File, .code a_slices_pdqsortCmpFunc_api_File), (F_math_bits_Len, .code a_math_bits_Len), (F_strings_Compare, .code a_strings_Compare), (F_slices_BinarySearchFunc_api_File_api_File_api_File, .code a_slices_BinarySearchFunc_api_File_api_File_api_File), (F_slices_Insert_api_File_api_File, .code a_slices_Insert_api_File_api_File), (F_slices_Equal_string_string, .code a_slices_Equal_string_string), (F_slices_IndexFunc_api_Event_api_Event, .code a_slices_IndexFunc_api_Event_api_Event), (F_patoissee_Fault, .code a_patoissee_Fault), (F_patoisref_SameFault, .code a_patoisref_SameFault), (F_slices_IndexFunc_string_string, .code a_slices_IndexFunc_string_string), (F_slices_insertionSortCmpFunc_api_File, .code a_slices_insertionSortCmpFunc_api_File), (F_math_bits_Len32, .code a_math_bits_Len32), (F_math_bits_Len64, .code a_math_bits_Len64), (F_patoisref_None, .code a_patoisref_None), (F_patoissee_fault, .code a_patoissee_fault), (F_patoisref_SameInts, .code a_patoisref_SameInts), (F_patoissee_sentinel, .code a_patoissee_sentinel), (F_patoissee_Alike, .code a_patoissee_Alike), (F_internal_bytealg_CompareString, .prim cmpP)]
def T : Tab := ⟨⟨[Ty_perrors_errorString]⟩, fun f => (entries.find? fun p => p.1 == f).map (·.2)⟩
theorem T_patoislaw4_KernelFiles : T.fn F_patoislaw4_KernelFiles = some (.code a_patoislaw4_KernelFiles) := rfl
theorem T_patoislaw4_KernelOwn : T.fn F_patoislaw4_KernelOwn = some (.code a_patoislaw4_KernelOwn) := rfl
theorem T_patoislaw4_KernelRows : T.fn F_patoislaw4_KernelRows = some (.code a_patoislaw4_KernelRows) := rfl
theorem T_patoislaw4_KernelMarks : T.fn F_patoislaw4_KernelMarks = some (.code a_patoislaw4_KernelMarks) := rfl
theorem T_patoislaw4_KernelPlays : T.fn F_patoislaw4_KernelPlays = some (.code a_patoislaw4_KernelPlays) := rfl
theorem T_patoislaw4_KernelBegins : T.fn F_patoislaw4_KernelBegins = some (.code a_patoislaw4_KernelBegins) := rfl
theorem T_patoislaw4_first : T.fn F_patoislaw4_first = some (.code a_patoislaw4_first) := rfl
theorem T_world_New : T.fn F_world_New = some (.code a_world_New) := rfl
theorem T_world_Kernel_Open : T.fn F_world_Kernel_Open = some (.code a_world_Kernel_Open) := rfl
theorem T_world_Kernel_Write : T.fn F_world_Kernel_Write = some (.code a_world_Kernel_Write) := rfl
theorem T_world_Kernel_Names : T.fn F_world_Kernel_Names = some (.code a_world_Kernel_Names) := rfl
theorem T_patoisref_Texts : T.fn F_patoisref_Texts = some (.code a_patoisref_Texts) := rfl
theorem T_world_Kernel_Exec : T.fn F_world_Kernel_Exec = some (.code a_world_Kernel_Exec) := rfl
theorem T_world_asked_Trace : T.fn F_world_asked_Trace = some (.code a_world_asked_Trace) := rfl
theorem T_world_Kernel_Files : T.fn F_world_Kernel_Files = some (.code a_world_Kernel_Files) := rfl
theorem T_patoisref_SameTexts : T.fn F_patoisref_SameTexts = some (.code a_patoisref_SameTexts) := rfl
theorem T_world_Kernel_Reads : T.fn F_world_Kernel_Reads = some (.code a_world_Kernel_Reads) := rfl
theorem T_world_asked_Mark : T.fn F_world_asked_Mark = some (.code a_world_asked_Mark) := rfl
theorem T_patoisref_SameEvents : T.fn F_patoisref_SameEvents = some (.code a_patoisref_SameEvents) := rfl
theorem T_world_Erase : T.fn F_world_Erase = some (.code a_world_Erase) := rfl
theorem T_world_asked_Len : T.fn F_world_asked_Len = some (.code a_world_asked_Len) := rfl
theorem T_patoislaw4_light : T.fn F_patoislaw4_light = some (.code a_patoislaw4_light) := rfl
theorem T_patoisref4_May : T.fn F_patoisref4_May = some (.code a_patoisref4_May) := rfl
theorem T_patoissee_Is : T.fn F_patoissee_Is = some (.code a_patoissee_Is) := rfl
theorem T_world_May : T.fn F_world_May = some (.code a_world_May) := rfl
theorem T_patoisref4_New : T.fn F_patoisref4_New = some (.code a_patoisref4_New) := rfl
theorem T_patoisref4_Kernel_Exec : T.fn F_patoisref4_Kernel_Exec = some (.code a_patoisref4_Kernel_Exec) := rfl
theorem T_patoisref4_Kernel_Reads : T.fn F_patoisref4_Kernel_Reads = some (.code a_patoisref4_Kernel_Reads) := rfl
theorem T_patoisref4_Kernel_Open : T.fn F_patoisref4_Kernel_Open = some (.code a_patoisref4_Kernel_Open) := rfl
theorem T_patoisref4_Kernel_Write : T.fn F_patoisref4_Kernel_Write = some (.code a_patoisref4_Kernel_Write) := rfl
theorem T_patoisref4_Kernel_Mark : T.fn F_patoisref4_Kernel_Mark = some (.code a_patoisref4_Kernel_Mark) := rfl
theorem T_patoisref_SameFiles : T.fn F_patoisref_SameFiles = some (.code a_patoisref_SameFiles) := rfl
theorem T_patoisref4_Kernel_Names : T.fn F_patoisref4_Kernel_Names = some (.code a_patoisref4_Kernel_Names) := rfl
theorem T_patoisref4_Erase : T.fn F_patoisref4_Erase = some (.code a_patoisref4_Erase) := rfl
theorem T_world_Begins : T.fn F_world_Begins = some (.code a_world_Begins) := rfl
theorem T_patoisref4_Begins : T.fn F_patoisref4_Begins = some (.code a_patoisref4_Begins) := rfl
theorem T_world_SameEvents : T.fn F_world_SameEvents = some (.code a_world_SameEvents) := rfl
theorem T_slices_Clone_api_File_api_File : T.fn F_slices_Clone_api_File_api_File = some (.code a_slices_Clone_api_File_api_File) := rfl
theorem T_slices_SortFunc_api_File_api_File : T.fn F_slices_SortFunc_api_File_api_File = some (.code a_slices_SortFunc_api_File_api_File) := rfl
theorem T_world_byName : T.fn F_world_byName = some (.code a_world_byName) := rfl
theorem T_slices_Clone_string_string : T.fn F_slices_Clone_string_string = some (.code a_slices_Clone_string_string) := rfl
theorem T_world_Kernel_file : T.fn F_world_Kernel_file = some (.code a_world_Kernel_file) := rfl
theorem T_world_asked_note : T.fn F_world_asked_note = some (.code a_world_asked_note) := rfl
theorem T_world_Kernel_made : T.fn F_world_Kernel_made = some (.code a_world_Kernel_made) := rfl
theorem T_world_Kernel_row : T.fn F_world_Kernel_row = some (.code a_world_Kernel_row) := rfl
theorem T_world_copied : T.fn F_world_copied = some (.code a_world_copied) := rfl
theorem T_patoisref_SameEvent : T.fn F_patoisref_SameEvent = some (.code a_patoisref_SameEvent) := rfl
theorem T_slices_DeleteFunc_api_Event_api_Event : T.fn F_slices_DeleteFunc_api_Event_api_Event = some (.code a_slices_DeleteFunc_api_Event_api_Event) := rfl
theorem T_world_Erase_1 : T.fn F_world_Erase_1 = some (.code a_world_Erase_1) := rfl
theorem T_patoissee_Same : T.fn F_patoissee_Same = some (.code a_patoissee_Same) := rfl
theorem T_patoisref_Bare : T.fn F_patoisref_Bare = some (.code a_patoisref_Bare) := rfl
theorem T_slices_ContainsFunc_string_string : T.fn F_slices_ContainsFunc_string_string = some (.code a_slices_ContainsFunc_string_string) := rfl
theorem T_world_May_1 : T.fn F_world_May_1 = some (.code a_world_May_1) := rfl
theorem T_patoisref4_Kernel_put : T.fn F_patoisref4_Kernel_put = some (.code a_patoisref4_Kernel_put) := rfl
theorem T_patoisref4_Kernel_row : T.fn F_patoisref4_Kernel_row = some (.code a_patoisref4_Kernel_row) := rfl
theorem T_patoisref4_Kernel_find : T.fn F_patoisref4_Kernel_find = some (.code a_patoisref4_Kernel_find) := rfl
theorem T_patoisref_SameFile : T.fn F_patoisref_SameFile = some (.code a_patoisref_SameFile) := rfl
theorem T_slices_EqualFunc_api_Event_api_Event_api_Event_api_Event : T.fn F_slices_EqualFunc_api_Event_api_Event_api_Event_api_Event = some (.code a_slices_EqualFunc_api_Event_api_Event_api_Event_api_Event) := rfl
theorem T_world_same : T.fn F_world_same = some (.code a_world_same) := rfl
theorem T_slices_pdqsortCmpFunc_api_File : T.fn F_slices_pdqsortCmpFunc_api_File = some (.code a_slices_pdqsortCmpFunc_api_File) := rfl
theorem T_math_bits_Len : T.fn F_math_bits_Len = some (.code a_math_bits_Len) := rfl
theorem T_strings_Compare : T.fn F_strings_Compare = some (.code a_strings_Compare) := rfl
theorem T_slices_BinarySearchFunc_api_File_api_File_api_File : T.fn F_slices_BinarySearchFunc_api_File_api_File_api_File = some (.code a_slices_BinarySearchFunc_api_File_api_File_api_File) := rfl
theorem T_slices_Insert_api_File_api_File : T.fn F_slices_Insert_api_File_api_File = some (.code a_slices_Insert_api_File_api_File) := rfl
theorem T_slices_Equal_string_string : T.fn F_slices_Equal_string_string = some (.code a_slices_Equal_string_string) := rfl
theorem T_slices_IndexFunc_api_Event_api_Event : T.fn F_slices_IndexFunc_api_Event_api_Event = some (.code a_slices_IndexFunc_api_Event_api_Event) := rfl
theorem T_patoissee_Fault : T.fn F_patoissee_Fault = some (.code a_patoissee_Fault) := rfl
theorem T_patoisref_SameFault : T.fn F_patoisref_SameFault = some (.code a_patoisref_SameFault) := rfl
theorem T_slices_IndexFunc_string_string : T.fn F_slices_IndexFunc_string_string = some (.code a_slices_IndexFunc_string_string) := rfl
theorem T_slices_insertionSortCmpFunc_api_File : T.fn F_slices_insertionSortCmpFunc_api_File = some (.code a_slices_insertionSortCmpFunc_api_File) := rfl
theorem T_math_bits_Len32 : T.fn F_math_bits_Len32 = some (.code a_math_bits_Len32) := rfl
theorem T_math_bits_Len64 : T.fn F_math_bits_Len64 = some (.code a_math_bits_Len64) := rfl
theorem T_patoisref_None : T.fn F_patoisref_None = some (.code a_patoisref_None) := rfl
theorem T_patoissee_fault : T.fn F_patoissee_fault = some (.code a_patoissee_fault) := rfl
theorem T_patoisref_SameInts : T.fn F_patoisref_SameInts = some (.code a_patoisref_SameInts) := rfl
theorem T_patoissee_sentinel : T.fn F_patoissee_sentinel = some (.code a_patoissee_sentinel) := rfl
theorem T_patoissee_Alike : T.fn F_patoissee_Alike = some (.code a_patoissee_Alike) := rfl
theorem T_internal_bytealg_CompareString : T.fn F_internal_bytealg_CompareString = some (.prim cmpP) := rfl
theorem okEntries : ∀ p ∈ entries, match p.2 with
    | .code F => ∃ fn, Tryd.prog.funcs[p.1]? = some fn ∧ okFun Tryd.prog gl fn F = true
    | .prim q => OSound Tryd.prog gl (fun g vs H => if g = p.1 then q vs H else none) ∧ ∀ vs H r, q vs H = some r → H.next ≤ r.2.next := by
  unfold entries
  simp only [List.forall_mem_cons]
  exact ⟨⟨_, Tryd.func3, ok_patoislaw4_KernelFiles⟩, ⟨_, Tryd.func4, ok_patoislaw4_KernelOwn⟩, ⟨_, Tryd.func5, ok_patoislaw4_KernelRows⟩, ⟨_, Tryd.func6, ok_patoislaw4_KernelMarks⟩, ⟨_, Tryd.func7, ok_patoislaw4_KernelPlays⟩, ⟨_, Tryd.func8, ok_patoislaw4_KernelBegins⟩, ⟨_, Tryd.func9, ok_patoislaw4_first⟩, ⟨_, Tryd.func10, ok_world_New⟩, ⟨_, Tryd.func11, ok_world_Kernel_Open⟩, ⟨_, Tryd.func12, ok_world_Kernel_Write⟩, ⟨_, Tryd.func13, ok_world_Kernel_Names⟩, ⟨_, Tryd.func14, ok_patoisref_Texts⟩, ⟨_, Tryd.func15, ok_world_Kernel_Exec⟩, ⟨_, Tryd.func16, ok_world_asked_Trace⟩, ⟨_, Tryd.func17, ok_world_Kernel_Files⟩, ⟨_, Tryd.func18, ok_patoisref_SameTexts⟩, ⟨_, Tryd.func19, ok_world_Kernel_Reads⟩, ⟨_, Tryd.func20, ok_world_asked_Mark⟩, ⟨_, Tryd.func21, ok_patoisref_SameEvents⟩, ⟨_, Tryd.func22, ok_world_Erase⟩, ⟨_, Tryd.func23, ok_world_asked_Len⟩, ⟨_, Tryd.func24, ok_patoislaw4_light⟩, ⟨_, Tryd.func25, ok_patoisref4_May⟩, ⟨_, Tryd.func26, ok_patoissee_Is⟩, ⟨_, Tryd.func27, ok_world_May⟩, ⟨_, Tryd.func28, ok_patoisref4_New⟩, ⟨_, Tryd.func29, ok_patoisref4_Kernel_Exec⟩, ⟨_, Tryd.func30, ok_patoisref4_Kernel_Reads⟩, ⟨_, Tryd.func31, ok_patoisref4_Kernel_Open⟩, ⟨_, Tryd.func32, ok_patoisref4_Kernel_Write⟩, ⟨_, Tryd.func33, ok_patoisref4_Kernel_Mark⟩, ⟨_, Tryd.func34, ok_patoisref_SameFiles⟩, ⟨_, Tryd.func35, ok_patoisref4_Kernel_Names⟩, ⟨_, Tryd.func36, ok_patoisref4_Erase⟩, ⟨_, Tryd.func37, ok_world_Begins⟩, ⟨_, Tryd.func38, ok_patoisref4_Begins⟩, ⟨_, Tryd.func39, ok_world_SameEvents⟩, ⟨_, Tryd.func40, ok_slices_Clone_api_File_api_File⟩, ⟨_, Tryd.func41, ok_slices_SortFunc_api_File_api_File⟩, ⟨_, Tryd.func42, ok_world_byName⟩, ⟨_, Tryd.func43, ok_slices_Clone_string_string⟩, ⟨_, Tryd.func44, ok_world_Kernel_file⟩, ⟨_, Tryd.func45, ok_world_asked_note⟩, ⟨_, Tryd.func46, ok_world_Kernel_made⟩, ⟨_, Tryd.func47, ok_world_Kernel_row⟩, ⟨_, Tryd.func48, ok_world_copied⟩, ⟨_, Tryd.func49, ok_patoisref_SameEvent⟩, ⟨_, Tryd.func50, ok_slices_DeleteFunc_api_Event_api_Event⟩, ⟨_, Tryd.func51, ok_world_Erase_1⟩, ⟨_, Tryd.func52, ok_patoissee_Same⟩, ⟨_, Tryd.func53, ok_patoisref_Bare⟩, ⟨_, Tryd.func54, ok_slices_ContainsFunc_string_string⟩, ⟨_, Tryd.func55, ok_world_May_1⟩, ⟨_, Tryd.func56, ok_patoisref4_Kernel_put⟩, ⟨_, Tryd.func57, ok_patoisref4_Kernel_row⟩, ⟨_, Tryd.func58, ok_patoisref4_Kernel_find⟩, ⟨_, Tryd.func59, ok_patoisref_SameFile⟩, ⟨_, Tryd.func60, ok_slices_EqualFunc_api_Event_api_Event_api_Event_api_Event⟩, ⟨_, Tryd.func61, ok_world_same⟩, ⟨_, Tryd.func62, ok_slices_pdqsortCmpFunc_api_File⟩, ⟨_, Tryd.func63, ok_math_bits_Len⟩, ⟨_, Tryd.func64, ok_strings_Compare⟩, ⟨_, Tryd.func65, ok_slices_BinarySearchFunc_api_File_api_File_api_File⟩, ⟨_, Tryd.func66, ok_slices_Insert_api_File_api_File⟩, ⟨_, Tryd.func67, ok_slices_Equal_string_string⟩, ⟨_, Tryd.func68, ok_slices_IndexFunc_api_Event_api_Event⟩, ⟨_, Tryd.func69, ok_patoissee_Fault⟩, ⟨_, Tryd.func70, ok_patoisref_SameFault⟩, ⟨_, Tryd.func71, ok_slices_IndexFunc_string_string⟩, ⟨_, Tryd.func72, ok_slices_insertionSortCmpFunc_api_File⟩, ⟨_, Tryd.func80, ok_math_bits_Len32⟩, ⟨_, Tryd.func81, ok_math_bits_Len64⟩, ⟨_, Tryd.func85, ok_patoisref_None⟩, ⟨_, Tryd.func86, ok_patoissee_fault⟩, ⟨_, Tryd.func87, ok_patoisref_SameInts⟩, ⟨_, Tryd.func96, ok_patoissee_sentinel⟩, ⟨_, Tryd.func100, ok_patoissee_Alike⟩, cmpPOk, fun p hp => absurd hp (by simp)⟩
theorem tabOk : TabOk Tryd.prog gl T where
  env := by kernel_rfl
  code := fun f F h => by
    simp only [T, Option.map_eq_some_iff] at h
    obtain ⟨p, h1, h2⟩ := h
    have h3 := okEntries p (List.mem_of_find?_eq_some h1)
    have h4 := List.find?_some h1
    obtain rfl : p.1 = f := by simpa using h4
    rw [h2] at h3
    exact h3
  prim := fun f q h => by
    simp only [T, Option.map_eq_some_iff] at h
    obtain ⟨p, h1, h2⟩ := h
    have h3 := okEntries p (List.mem_of_find?_eq_some h1)
    have h4 := List.find?_some h1
    obtain rfl : p.1 = f := by simpa using h4
    rw [h2] at h3
    exact h3
end Go.Proofs.YtlecbjcloleiiaaDoor.Ram

namespace Go.Proofs.YtlecbjcloleiiaaDoor.Ram
open Go
def isTrue : Option (AV × AH) → Bool
  | some (.bool true, _) => true
  | _ => false
set_option maxRecDepth 100000 in
theorem first_run : isTrue (callC T 60 F_patoislaw4_first [] (H00 100)) = true := by kernel_rfl
end Go.Proofs.YtlecbjcloleiiaaDoor.Ram

/-! The table in which the chapter's examples are told by their answer. -/
namespace Go.Proofs.YtlecbjcloleiiaaDoor.Ram
open Go Go.RowKit

def firstP : List AV → AH → Option (AV × AH)
  | [], H => some (.bool true, H)
  | _, _ => none
theorem firstPOk : OSound Tryd.prog gl (fun g vs H => if g = F_patoislaw4_first then firstP vs H else none) ∧ ∀ vs H r, firstP vs H = some r → H.next ≤ r.2.next := by
  have key : ∀ vs H r, firstP vs H = some r → vs = [] ∧ r = (.bool true, H) := by
    intro vs H r h
    unfold firstP at h
    split at h
    · exact ⟨rfl, (Option.some.inj h).symm⟩
    · cases h
  refine ⟨fun f vs H r h m w cargs hG hh hv => ?_, fun vs H r h => ?_⟩
  · by_cases hf : f = F_patoislaw4_first
    · subst hf
      dsimp only at h; rw [if_pos rfl] at h
      obtain ⟨rfl, rfl⟩ := key _ _ _ h
      simp only [VRs] at hv
      obtain rfl : cargs = #[] := by rw [← Array.toArray_toList (xs := cargs), hv]
      have h1 : ∃ H1, callC T 60 F_patoislaw4_first [] (H00 100) = some (.bool true, H1) := by
        have h0 := first_run
        unfold isTrue at h0
        split at h0
        · rename_i H1 e; exact ⟨H1, e⟩
        · cases h0
      obtain ⟨H1, h1⟩ := h1
      exact closed_sound tabOk (k := 100) (by decide) (fun m m' c h => by simpa only [VR] using h) (Call_of_callC h1) hG hh
    · dsimp only at h; rw [if_neg hf] at h; cases h
  · obtain ⟨rfl, rfl⟩ := key _ _ _ h
    exact Nat.le_refl _
def U : Tab := ⟨T.E, fun f => if f = F_patoislaw4_first then some (.prim firstP) else T.fn f⟩
theorem tabOkU : TabOk Tryd.prog gl U where
  env := tabOk.env
  code := fun f F h => by
    simp only [U] at h
    split at h
    · cases h
    · exact tabOk.code f F h
  prim := fun f p h => by
    simp only [U] at h
    split at h
    · rename_i e; subst e; cases h; exact firstPOk
    · exact tabOk.prim f p h
theorem U_first : U.fn F_patoislaw4_first = some (.prim firstP) := rfl
end Go.Proofs.YtlecbjcloleiiaaDoor.Ram

/-! The second machine's table for the Kernel laws. -/
namespace Go.Proofs.YtlecbjcloleiiaaDoor.Val
open Go Go.Proofs.YtlecbjcloleiiaaDoor.Ram

def FlT : Flags := { lin := fun _ => none, ret := fun _ => false, made := fun f => f == F_world_New || f == F_world_copied, frz := fun f => f == F_world_asked_Trace || f == F_world_Erase }
def firstV : List V → VH → Option (V × VH)
  | [], S => some (.bool true, S)
  | _, _ => none
def cmpV : List V → VH → Option (V × VH)
  | [.str a, .str b], S => some (.int .i64 (cmpL a b), S)
  | _, _ => none
def vprims : List (Nat × (List V → VH → Option (V × VH))) := [(F_patoislaw4_first, firstV), (F_slices_Clone_string_string, cloneP true 1 16), (F_slices_Clone_api_File_api_File, cloneH 2 32), (F_internal_bytealg_CompareString, cmpV)]
def VT : VTab := ⟨U.E, FlT, fun f => match vprims.find? fun p => p.1 == f with
  | some p => some (.prim p.2)
  | none => match U.fn f with | some (.code F) => some (.code F) | _ => none⟩
theorem firstV_ok : PrimOk U F_patoislaw4_first firstV := by
  intro vs rs S v S' hp φ G W H as' h hl
  unfold firstV at hp
  split at hp
  · obtain ⟨rfl, rfl⟩ := Prod.mk.inj (Option.some.inj hp)
    match as', hl with
    | [], _ => exact ⟨.bool true, H, φ, G, W, by rw [Call_prim U_first]; rfl, h.only (by simp [VRel]), Frm.refl _ _ _ _⟩
  · cases hp
theorem U_cmp : U.fn F_internal_bytealg_CompareString = some (.prim cmpP) := rfl
theorem cmpV_ok : PrimOk U F_internal_bytealg_CompareString cmpV := by
  intro vs rs S v S' hp φ G W H as' h hl
  unfold cmpV at hp
  split at hp
  · rename_i a b
    obtain ⟨rfl, rfl⟩ := Prod.mk.inj (Option.some.inj hp)
    obtain ⟨x, h1, h2⟩ := h.slots 0 (.str a) (by simp)
    obtain ⟨y, h3, h4⟩ := h.slots 1 (.str b) (by simp)
    simp only [VRel] at h2 h4
    subst h2; subst h4
    rw [get_frOf'] at h1 h3
    match as', hl, h1, h3 with
    | [p, q], _, h1, h3 =>
      simp at h1 h3; subst h1; subst h3
      exact ⟨.int .i64 (cmpL a b), H, φ, G, W, by rw [Call_prim U_cmp]; rfl, h.only (by simp [VRel]), Frm.refl _ _ _ _⟩
  · cases hp
theorem vprims_ok : ∀ p ∈ vprims, PrimOk U p.1 p.2 := by
  unfold vprims
  simp only [List.forall_mem_cons]
  exact ⟨firstV_ok, cloneP_ok (f := F_slices_Clone_string_string) rfl (by decide) (by decide), cloneH_ok (f := F_slices_Clone_api_File_api_File) rfl (by decide) (by decide), cmpV_ok, fun p hp => absurd hp (by simp)⟩
theorem vtOk : VTabOk VT U where
  env := rfl
  code := fun f F h => by
    simp only [VT] at h
    split at h
    · cases h
    · split at h
      · rename_i e; rw [e]; simpa using h
      · cases h
  prim := fun f p h => by
    simp only [VT] at h
    split at h
    · rename_i q e
      have h1 := vprims_ok q (List.mem_of_find?_eq_some e)
      have h2 := List.find?_some e
      obtain rfl : q.1 = f := by simpa using h2
      obtain rfl : q.2 = p := by simpa using h
      exact h1
    · split at h <;> cases h
@[simp] theorem lin_T {f : Nat} : VT.Fl.lin f = none := nd rfl
/-- A copy. -/
theorem v_Clone_string {l : List (List V)} {S : VH} (h : l.length < 1000000) : VCall VT F_slices_Clone_string_string [.lst 1 l] [] S = some (.lst 1 l, [], S) := by
  rw [VCall_prim (p := cloneP true 1 16) rfl]
  simp [cloneP]; omega
theorem v_first {S : VH} : VCall VT F_patoislaw4_first [] [] S = some (.bool true, [], S) := by
  rw [VCall_prim (p := firstV) rfl]; rfl
theorem v_Clone_File {S : VH} : VCall VT F_slices_Clone_api_File_api_File [.lst 2 []] [] S = some (.lst 2 [], [], S) := by
  rw [VCall_prim (p := cloneH 2 32) rfl]; rfl
theorem v_Clone_Files {v : V} {rows : List (List V)} {S : VH} (hv : isSl v = true) (hs : seenV S 2 v = some rows) (h0 : rows ≠ []) (h : rows.length < 1000000) : VCall VT F_slices_Clone_api_File_api_File [v] [] S = some (.sl (some (S.next, 0)) 2 rows.length none, [], S.push (.cells rows.flatten [])) := by
  rw [VCall_prim (p := cloneH 2 32) rfl]
  have : rows.length * 32 ≤ 140737488355328 := by omega
  simp [cloneH, hs, h0, hv, this]
theorem v_Compare {a b : List UInt8} {S : VH} : VCall VT F_strings_Compare [.str a, .str b] [] S = some (.int .i64 (cmpL a b), [], S) := by
  have : VCall VT F_internal_bytealg_CompareString [.str a, .str b] [] S = some (.int .i64 (cmpL a b), [], S) := by
    rw [VCall_prim (p := cmpV) rfl]; rfl
  rw [VCall_of (F := a_strings_Compare) rfl rfl rfl rfl]
  simp -implicitDefEqProofs [a_strings_Compare, c_strings_Compare, this]
theorem v_byName {a b d e : List UInt8} {S : VH} : VCall VT F_world_byName [.agg [.str a, .str d], .agg [.str b, .str e]] [] S = some (.int .i64 (cmpL a b), [], S) := by
  rw [VCall_of (F := a_world_byName) rfl rfl rfl rfl]
  simp -implicitDefEqProofs [a_world_byName, c_world_byName, v_Compare]
end Go.Proofs.YtlecbjcloleiiaaDoor.Val

/-! How a law begins: its arguments in both machines. -/
namespace Go.Proofs.YtlecbjcloleiiaaDoor.Val
open Go Go.RowKit Go.Proofs.YtlecbjcloleiiaaDoor.Ram

abbrev Bs := List (Ram.Loc × List AV)
def G0 (bl : Bs) : Fz := fun r => if 100 ≤ r then (bl[r - 100]?).map (·.2) else none
def S0 : VH := ⟨100, fun _ => none⟩
def phi0 : Bk := fun i => if i < 100 then some i else none
theorem Rel.start {bl : Bs} {xs : List V} {avs : List AV} (h : VRels phi0 (G0 bl) xs avs) : Rel phi0 (G0 bl) (fun _ => False) ⟨frV xs, [], S0⟩ (frOf avs) (heapOf bl) where
  slots := fun n v hv => by
    rw [vget_frV] at hv
    obtain ⟨a, h1, h2⟩ := h.get hv
    exact ⟨a, by rw [get_frOf']; exact h1, h2⟩
  objs := fun i o hi => by cases hi
  inj := fun i j r oi oj hi => by cases hi
  dom := fun i r hi => by
    simp only [phi0] at hi
    split at hi
    · assumption
    · cases hi
  glob := fun g hg => by simp [phi0, hg]
  n100 := ⟨Nat.le_refl _, by simp [heapOf]⟩
  fz := fun r pre hp => by
    simp only [G0] at hp
    split at hp
    · rename_i h100
      obtain ⟨a, h1, rfl⟩ := Option.map_eq_some_iff.1 hp
      have := (List.getElem?_eq_some_iff.1 h1).1
      exact ⟨by simp only [heapOf]; omega, a.2, true, by simp only [heapOf]; rw [if_pos h100, h1]; rfl, List.prefix_refl _⟩
    · cases hp
  win := fun r hr => hr.elim
  rt := fun R hR => by
    cases R with
    | slot n => cases hR
    | part n j => cases hR
    | cell i off => simp [Has, ownAt, S0] at hR
  rtx := fun R R' a a' r hR => by
    cases R with
    | slot n => cases hR
    | part n j => cases hR
    | cell i off => simp [Has, ownAt, S0] at hR
  alias := fun n i off hm => by cases hm
/-- A value of the program's is this one, wherever its blocks are numbered. -/
def Arg (ng : Nat) (n : Nat → Nat) (W : World) (v : Value) (x : V) : Prop := ∃ (bs : Nat → Bs) (av : Nat → AV), ∀ pre post : Bs,
  (∀ a ∈ bs pre.length, ObjR (mapOf ng n (pre ++ bs pre.length ++ post)) W a.1 (.cells a.2 true)) ∧ VR (mapOf ng n (pre ++ bs pre.length ++ post)) (av pre.length) v ∧ VRel phi0 (G0 (pre ++ bs pre.length ++ post)) x (av pre.length)
inductive Args (ng : Nat) (n : Nat → Nat) (W : World) : List Value → List V → Prop where
  | nil : Args ng n W [] []
  | cons {v : Value} {x : V} {vs : List Value} {xs : List V} (h : Arg ng n W v x) (hs : Args ng n W vs xs) : Args ng n W (v :: vs) (x :: xs)
section
variable {ng : Nat} {n : Nat → Nat} {W : World}
theorem Args.all {vs : List Value} {xs : List V} (h : Args ng n W vs xs) : ∀ pre : Bs, ∃ (bl : Bs) (avs : List AV), ∀ post : Bs,
    (∀ a ∈ bl, ObjR (mapOf ng n (pre ++ bl ++ post)) W a.1 (.cells a.2 true)) ∧ VRs (mapOf ng n (pre ++ bl ++ post)) avs vs ∧ VRels phi0 (G0 (pre ++ bl ++ post)) xs avs := by
  induction h with
  | nil => intro pre; exact ⟨[], [], fun post => ⟨fun a ha => (by cases ha), rfl, rfl⟩⟩
  | cons h hs ih =>
    intro pre
    obtain ⟨bs, av, hb⟩ := h
    obtain ⟨bl, avs, ha⟩ := ih (pre ++ bs pre.length)
    refine ⟨bs pre.length ++ bl, av pre.length :: avs, fun post => ?_⟩
    obtain ⟨h1, h2, h3⟩ := hb pre (bl ++ post)
    obtain ⟨k1, k2, k3⟩ := ha post
    have e1 : pre ++ bs pre.length ++ (bl ++ post) = pre ++ (bs pre.length ++ bl) ++ post := by simp
    have e2 : pre ++ bs pre.length ++ bl ++ post = pre ++ (bs pre.length ++ bl) ++ post := by simp
    rw [e1] at h1 h2 h3
    rw [e2] at k1 k2 k3
    refine ⟨fun a hm => (List.mem_append.1 hm).elim (h1 a) (k1 a), ?_, ?_⟩
    · simp only [VRs]; exact ⟨_, _, rfl, h2, k2⟩
    · simp only [VRels]; exact ⟨_, _, rfl, h3, k3⟩
theorem arg_int {k : IntKind} {z : Int} : Arg ng n W (.int k z) (.int k z) := ⟨fun _ => [], fun _ => .int k z, fun _ _ => ⟨fun a ha => (by cases ha), by simp only [VR], by simp only [VRel]⟩⟩
theorem arg_bool {b : Bool} : Arg ng n W (.bool b) (.bool b) := ⟨fun _ => [], fun _ => .bool b, fun _ _ => ⟨fun a ha => (by cases ha), by simp only [VR], by simp only [VRel]⟩⟩
theorem arg_str {s : ByteArray} : Arg ng n W (.string s) (.str s.data.toList) := ⟨fun _ => [], fun _ => .str s.data.toList, fun _ _ => ⟨fun a ha => (by cases ha), by simp only [VR], by simp only [VRel]⟩⟩
theorem arg_nil {sz : Nat} : Arg ng n W (.slice none 0 0) (.lst sz []) := ⟨fun _ => [], fun _ => .sl none sz 0 (some 0), fun _ _ => ⟨fun a ha => (by cases ha), by simp [VR], by simp only [VRel]; exact .inl ⟨trivial, _, _, rfl⟩⟩⟩
/-- One-cell rows. -/
theorem rows_one {φ : Bk} {G : Fz} : ∀ {us : List V} {xs cs : List AV}, VRels φ G us xs → cs.take us.length = xs → RowsRel φ G 1 (us.map fun u => [u]) cs
  | [], _, _, _, _ => by simp only [List.map_nil, RowsRel]
  | u :: us, xs, cs, h, hc => by
    simp only [VRels] at h
    obtain ⟨a, r, rfl, h1, h2⟩ := h
    cases cs with
    | nil => simp at hc
    | cons c cs =>
      simp only [List.length_cons, List.take_succ_cons, List.cons.injEq] at hc
      obtain ⟨rfl, hc⟩ := hc
      simp only [List.map_cons, RowsRel, List.length_singleton, List.take_succ_cons, List.take_zero, List.drop_succ_cons, List.drop_zero, true_and]
      exact ⟨by simp only [VRels]; exact ⟨_, [], rfl, h1, rfl⟩, rows_one h2 hc⟩
theorem arg_list {g : Ram.Loc} (hng : ng ≤ 100) (hg : ∀ m, ObjR m W g (.cells [] true)) {a : Addr} {len cap : Nat} {us : List V} {xs : List AV} {vs : List Value} (hx : ∀ m, VRs m xs vs) (hu : ∀ φ G, VRels φ G us (xs.take len)) (h1 : xs.all oneCell = true) (hcap : xs.length = cap) (hl : len ≤ cap) (hm : cap ≤ maxLen)
    (hc : ∀ i v, vs[i]? = some v → W.cell? (a.add i) = some v) : Arg ng n W (.slice (some a) len cap) (.lst 1 (us.map fun u => [u])) := by
  obtain ⟨loc, l, k1, ⟨k2, k3⟩, k4⟩ := slice_arg (hg fun _ => none) (hx _) h1 hcap hl hm hc
  have hul : us.length = len := by
    have := (hu phi0 fun _ => none).length
    rw [List.length_take] at this; omega
  refine ⟨fun _ => [(loc, l)], fun i => .sl (some (100 + i, 0)) 1 len none, fun pre post => ⟨fun a ha => ?_, k4 _ _ ?_, ?_⟩⟩
  · obtain rfl := List.mem_singleton.1 ha
    exact k1.mono (fun _ _ h => by cases h) rfl
  · simp only [mapOf]
    rw [if_neg (by omega), if_pos (by omega), show 100 + pre.length - 100 = pre.length by omega]
    simp
  · simp only [VRel]
    refine .inr ⟨100 + pre.length, 0, none, l, by simp [hul], ?_, ?_, ?_⟩
    · simp only [G0]
      rw [if_pos (by omega), show 100 + pre.length - 100 = pre.length by omega]
      simp
    · simp [hul]; omega
    · rw [List.drop_zero]
      exact rows_one (hu _ _) (by rw [hul]; exact k3)
end
end Go.Proofs.YtlecbjcloleiiaaDoor.Val

/-! Lists of strings. -/
set_option linter.unusedSimpArgs false
set_option linter.unusedVariables false
namespace Go.Proofs.YtlecbjcloleiiaaDoor.Val
open Go Go.Proofs.YtlecbjcloleiiaaDoor.Ram

abbrev Str := List UInt8
abbrev strRow (s : Str) : List V := [.str s]
abbrev strsV (l : List Str) : V := .lst 1 (l.map strRow)
@[simp] theorem clo_strs {n : Nat} {l : List Str} : V.closs n (l.map strRow) = true := closs_map fun _ => rfl

theorem i64_lt {n : Nat} (h : n < 9223372036854775808) : IntKind.i64.wrap (n : Int) = n := by
  have := Go.IntWalk.i64_in (n : Int) ⟨by omega, by omega⟩
  exact this
@[simp] theorem wrap_succ {j n : Nat} (h : j < n) (hn : n < 9223372036854775808) : IntKind.i64.wrap ((j : Int) + 1) = ((j + 1 : Nat) : Int) := by
  have := i64_lt (n := j + 1) (by omega)
  rw [← this]; congr 1

/-- The next item. -/
theorem next_at {α : Type} {a : List α} {j : Nat} (h : j < a.length) : ∃ x, a[j]? = some x ∧ a.drop j = x :: a.drop (j + 1) := ⟨a[j], by simp [h], List.drop_eq_getElem_cons h⟩
theorem v_SameTexts_loop {a b : List Str} {S : VH} (hl : a.length = b.length) (ha : a.length < 1000000) : ∀ (d j : Nat), j + d = a.length →
    (a.drop j = b.drop j ∧ loopX VT.E VT.Fl (VCall VT) c_patoisref_SameTexts_l0 ⟨[(0, strsV a), (1, strsV b), (5, .int .i64 j)], [], S⟩ = some (.exit 0, ⟨[(0, strsV a), (1, strsV b), (5, .int .i64 a.length), (15, .bool false)], [], S⟩)) ∨
    (a.drop j ≠ b.drop j ∧ ∃ f, loopX VT.E VT.Fl (VCall VT) c_patoisref_SameTexts_l0 ⟨[(0, strsV a), (1, strsV b), (5, .int .i64 j)], [], S⟩ = some (.ret, ⟨(4, .bool false) :: f, [], S⟩)) := by
  have hK : ∀ f w h, loopX VT.E VT.Fl (VCall VT) c_patoisref_SameTexts_l0 ⟨f, w, h⟩ = loopX VT.E VT.Fl (VCall VT) c_patoisref_SameTexts_l0 ⟨VFr.keep f [0, 1, 5], Rts.keep w.noCell [0, 1, 5], h⟩ := fun _ _ _ => loopX_keep
  intro d
  induction d with
  | zero =>
    intro j hj
    obtain rfl : j = a.length := by omega
    left
    rw [loopX_eq]
    simp -implicitDefEqProofs [c_patoisref_SameTexts_l0, binA, hl]
  | succ d ih =>
    intro j hj
    have h1 : j < a.length := by omega
    have h2 : j < b.length := by omega
    have hlt : (j : Int) < (a.length : Int) := by omega
    obtain ⟨x, hx, dx⟩ := next_at h1
    obtain ⟨y, hy, dy⟩ := next_at h2
    rw [loopX_eq, dx, dy]
    have := ih (j + 1) (by omega)
    push_cast at this
    generalize loopX VT.E VT.Fl (VCall VT) c_patoisref_SameTexts_l0 = L at *
    by_cases e : x = y
    · simp -implicitDefEqProofs [c_patoisref_SameTexts_l0, binA, hlt, hx, hy, e, wrap_succ h1 (by omega)]
      rw [hK]
      simpa using this
    · simp -implicitDefEqProofs [c_patoisref_SameTexts_l0, binA, hlt, hx, hy, e]
theorem v_SameTexts {a b : List Str} {S : VH} (ha : a.length < 1000000) : VCall VT F_patoisref_SameTexts [strsV a, strsV b] [] S = some (.bool (decide (a = b)), [], S) := by
  rw [VCall_of (F := a_patoisref_SameTexts) rfl rfl rfl rfl]
  by_cases hl : a.length = b.length
  · have := v_SameTexts_loop (S := S) hl ha a.length 0 (by omega)
    push_cast at this
    rcases this with ⟨e, this⟩ | ⟨e, f, this⟩
    · simp -implicitDefEqProofs [a_patoisref_SameTexts, c_patoisref_SameTexts, binA, hl, this]
      simpa using e
    · simp -implicitDefEqProofs [a_patoisref_SameTexts, c_patoisref_SameTexts, binA, hl, this]
      simpa using e
  · have e : a ≠ b := fun h => hl (by rw [h])
    have hl' : ¬ ((a.length : Int) = (b.length : Int)) := by omega
    simp -implicitDefEqProofs [a_patoisref_SameTexts, c_patoisref_SameTexts, binA, e, hl']

theorem v_Texts_loop {a : List Str} {S : VH} (ha : a.length < 1000000) : ∀ (d j : Nat) (out : List Str), j + d = a.length → out.length = j →
    loopX VT.E VT.Fl (VCall VT) c_patoisref_Texts_l0 ⟨[(0, strsV a), (3, strsV out), (4, .int .i64 j)], [(3, .own)], S⟩ =
      some (.exit 0, ⟨[(0, strsV a), (3, strsV (out ++ a.drop j)), (4, .int .i64 a.length), (11, .bool false)], [(3, .own)], S⟩) := by
  have hK : ∀ f w h, loopX VT.E VT.Fl (VCall VT) c_patoisref_Texts_l0 ⟨f, w, h⟩ = loopX VT.E VT.Fl (VCall VT) c_patoisref_Texts_l0 ⟨VFr.keep f [0, 3, 4], Rts.keep w.noCell [0, 3, 4], h⟩ := fun _ _ _ => loopX_keep
  intro d
  induction d with
  | zero =>
    intro j out hj ho
    obtain rfl : j = a.length := by omega
    rw [loopX_eq]
    simp -implicitDefEqProofs [c_patoisref_Texts_l0, binA]
  | succ d ih =>
    intro j out hj ho
    have h1 : j < a.length := by omega
    have hlt : (j : Int) < (a.length : Int) := by omega
    obtain ⟨x, hx, dx⟩ := next_at h1
    have := ih (j + 1) (out ++ [x]) (by omega) (by simp [ho])
    push_cast at this
    have e2 : (out.length + 1) * 16 ≤ 140737488355328 := by omega
    rw [loopX_eq, dx]
    generalize loopX VT.E VT.Fl (VCall VT) c_patoisref_Texts_l0 = L at *
    simp -implicitDefEqProofs [c_patoisref_Texts_l0, binA, hlt, hx, e2, wrap_succ h1 (by omega)]
    rw [hK]
    simpa [strsV] using this
theorem v_Texts {a : List Str} {S : VH} (ha : a.length < 1000000) : VCall VT F_patoisref_Texts [strsV a] [] S = some (strsV a, [], S) := by
  rw [VCall_of (F := a_patoisref_Texts) rfl rfl rfl rfl]
  have := v_Texts_loop (S := S) ha a.length 0 [] (by omega) rfl
  simp [strsV] at this
  have e2 : (16 : Int) * a.length ≤ 281474976710656 := by omega
  have e3 : (a.length : Int) ≤ 9223372036854775807 := by omega
  simp -implicitDefEqProofs [a_patoisref_Texts, c_patoisref_Texts, e2, e3, this]
end Go.Proofs.YtlecbjcloleiiaaDoor.Val

/-! Small walks of the kernel: lists of strings. -/
set_option linter.unusedSimpArgs false
set_option linter.unusedVariables false
namespace Go.Proofs.YtlecbjcloleiiaaDoor.Val
open Go Go.Proofs.YtlecbjcloleiiaaDoor.Ram

theorem v_May_1 {s : Str} {S : VH} : VCall VT F_world_May_1 [.str s] [] S = some (.bool (decide (2000 < s.length)), [], S) := by
  rw [VCall_of (F := a_world_May_1) rfl rfl rfl rfl]
  simp -implicitDefEqProofs [a_world_May_1, c_world_May_1, binA]
  omega

theorem v_Index_loop {g : Nat} {p : Str → Bool} {S : VH} (hg : ∀ s, VCall VT g [.str s] [] S = some (.bool (p s), [], S)) {a : List Str} (ha : a.length < 1000000) : ∀ (d j : Nat), j + d = a.length →
    ((a.drop j).any p = false ∧ loopX VT.E VT.Fl (VCall VT) c_slices_IndexFunc_string_string_l0 ⟨[(0, strsV a), (1, .fn g []), (7, .int .i64 a.length), (8, .int .i64 j)], [], S⟩ = some (.exit 0, ⟨[(0, strsV a), (1, .fn g []), (7, .int .i64 a.length), (8, .int .i64 a.length), (9, .bool false)], [], S⟩)) ∨
    ((a.drop j).any p = true ∧ ∃ (i : Nat) (f : VFr), loopX VT.E VT.Fl (VCall VT) c_slices_IndexFunc_string_string_l0 ⟨[(0, strsV a), (1, .fn g []), (7, .int .i64 a.length), (8, .int .i64 j)], [], S⟩ = some (.ret, ⟨(4, .int .i64 i) :: f, [], S⟩)) := by
  have hK : ∀ f w h, loopX VT.E VT.Fl (VCall VT) c_slices_IndexFunc_string_string_l0 ⟨f, w, h⟩ = loopX VT.E VT.Fl (VCall VT) c_slices_IndexFunc_string_string_l0 ⟨VFr.keep f [0, 1, 7, 8], Rts.keep w.noCell [0, 1, 7, 8], h⟩ := fun _ _ _ => loopX_keep
  intro d
  induction d with
  | zero =>
    intro j hj
    obtain rfl : j = a.length := by omega
    left
    rw [loopX_eq]
    simp -implicitDefEqProofs [c_slices_IndexFunc_string_string_l0, binA]
  | succ d ih =>
    intro j hj
    have h1 : j < a.length := by omega
    have hlt : (j : Int) < (a.length : Int) := by omega
    obtain ⟨x, hx, dx⟩ := next_at h1
    rw [loopX_eq, dx]
    have := ih (j + 1) (by omega)
    push_cast at this
    generalize loopX VT.E VT.Fl (VCall VT) c_slices_IndexFunc_string_string_l0 = L at *
    by_cases e : p x = true
    · right
      simp -implicitDefEqProofs [c_slices_IndexFunc_string_string_l0, binA, hlt, hx, hg, e]
      exact ⟨j, rfl⟩
    · simp only [Bool.not_eq_true] at e
      simp -implicitDefEqProofs [c_slices_IndexFunc_string_string_l0, binA, hlt, hx, hg, e, wrap_succ h1 (by omega)]
      rw [hK]
      simpa using this
theorem v_Contains {g : Nat} {p : Str → Bool} {S : VH} (hg : ∀ s, VCall VT g [.str s] [] S = some (.bool (p s), [], S)) {a : List Str} (ha : a.length < 1000000) :
    VCall VT F_slices_ContainsFunc_string_string [strsV a, .fn g []] [] S = some (.bool (a.any p), [], S) := by
  rw [VCall_of (F := a_slices_ContainsFunc_string_string) rfl rfl rfl rfl]
  have key : ∃ i : Int, decide (0 ≤ i) = a.any p ∧ VCall VT F_slices_IndexFunc_string_string [strsV a, .fn g []] [] S = some (.int .i64 i, [], S) := by
    rw [VCall_of (F := a_slices_IndexFunc_string_string) rfl rfl rfl rfl]
    have := v_Index_loop hg ha a.length 0 (by omega)
    push_cast at this
    rw [List.drop_zero] at this
    rcases this with ⟨e, this⟩ | ⟨e, i, f, this⟩
    · refine ⟨-1, by rw [e]; rfl, ?_⟩
      simp -implicitDefEqProofs [a_slices_IndexFunc_string_string, c_slices_IndexFunc_string_string, binA, this]
    · refine ⟨i, by rw [e]; simp, ?_⟩
      simp -implicitDefEqProofs [a_slices_IndexFunc_string_string, c_slices_IndexFunc_string_string, binA, this]
  obtain ⟨i, hi, key⟩ := key
  simp -implicitDefEqProofs [a_slices_ContainsFunc_string_string, c_slices_ContainsFunc_string_string, binA, key]
  rw [← hi]

theorem v_Equal_loop {a b : List Str} {S : VH} (hl : a.length = b.length) (ha : a.length < 1000000) : ∀ (d j : Nat), j + d = a.length →
    (a.drop j = b.drop j ∧ loopX VT.E VT.Fl (VCall VT) c_slices_Equal_string_string_l0 ⟨[(0, strsV a), (1, strsV b), (12, .int .i64 a.length), (13, .int .i64 j)], [], S⟩ = some (.exit 0, ⟨[(0, strsV a), (1, strsV b), (12, .int .i64 a.length), (13, .int .i64 a.length), (14, .bool false)], [], S⟩)) ∨
    (a.drop j ≠ b.drop j ∧ ∃ f, loopX VT.E VT.Fl (VCall VT) c_slices_Equal_string_string_l0 ⟨[(0, strsV a), (1, strsV b), (12, .int .i64 a.length), (13, .int .i64 j)], [], S⟩ = some (.ret, ⟨(4, .bool false) :: f, [], S⟩)) := by
  have hK : ∀ f w h, loopX VT.E VT.Fl (VCall VT) c_slices_Equal_string_string_l0 ⟨f, w, h⟩ = loopX VT.E VT.Fl (VCall VT) c_slices_Equal_string_string_l0 ⟨VFr.keep f [0, 1, 12, 13], Rts.keep w.noCell [0, 1, 12, 13], h⟩ := fun _ _ _ => loopX_keep
  intro d
  induction d with
  | zero =>
    intro j hj
    obtain rfl : j = a.length := by omega
    left
    rw [loopX_eq]
    simp -implicitDefEqProofs [c_slices_Equal_string_string_l0, binA, hl]
  | succ d ih =>
    intro j hj
    have h1 : j < a.length := by omega
    have h2 : j < b.length := by omega
    have hlt : (j : Int) < (a.length : Int) := by omega
    obtain ⟨x, hx, dx⟩ := next_at h1
    obtain ⟨y, hy, dy⟩ := next_at h2
    rw [loopX_eq, dx, dy]
    have := ih (j + 1) (by omega)
    push_cast at this
    generalize loopX VT.E VT.Fl (VCall VT) c_slices_Equal_string_string_l0 = L at *
    by_cases e : x = y
    · simp -implicitDefEqProofs [c_slices_Equal_string_string_l0, binA, hlt, hx, hy, e, wrap_succ h1 (by omega)]
      rw [hK]
      simpa using this
    · simp -implicitDefEqProofs [c_slices_Equal_string_string_l0, binA, hlt, hx, hy, e]
theorem v_Equal {a b : List Str} {S : VH} (ha : a.length < 1000000) : VCall VT F_slices_Equal_string_string [strsV a, strsV b] [] S = some (.bool (decide (a = b)), [], S) := by
  rw [VCall_of (F := a_slices_Equal_string_string) rfl rfl rfl rfl]
  by_cases hl : a.length = b.length
  · have := v_Equal_loop (S := S) hl ha a.length 0 (by omega)
    push_cast at this
    rcases this with ⟨e, this⟩ | ⟨e, f, this⟩
    · simp -implicitDefEqProofs [a_slices_Equal_string_string, c_slices_Equal_string_string, binA, hl] at this ⊢
      simp -implicitDefEqProofs [this]
      simpa using e
    · simp -implicitDefEqProofs [a_slices_Equal_string_string, c_slices_Equal_string_string, binA, hl] at this ⊢
      simp -implicitDefEqProofs [this]
      simpa using e
  · have e : a ≠ b := fun h => hl (by rw [h])
    have hl' : ¬ ((a.length : Int) = (b.length : Int)) := by omega
    simp -implicitDefEqProofs [a_slices_Equal_string_string, c_slices_Equal_string_string, binA, e, hl']

/-- A row of the world. -/
structure Row where
  name : Str
  args : List Str
  any : Bool
  reads : Bool
  copy : Bool
  out : Str
  status : Int
abbrev encRow (r : Row) : List V := [.str r.name, strsV r.args, .bool r.any, .bool r.reads, .bool r.copy, .str r.out, .int .i64 r.status]
abbrev rowsV (l : List Row) : V := .lst 7 (l.map encRow)
@[simp] theorem clo_rows {n : Nat} {l : List Row} : V.closs n (l.map encRow) = true := closs_map fun _ => by simp
/-- An event. -/
structure Event where
  kind : Int
  n : Int
  a : Str
  b : Str
  l : List Str
  deriving DecidableEq
abbrev encEv (e : Event) : List V := [.int .i64 e.kind, .int .i64 e.n, .str e.a, .str e.b, strsV e.l]
abbrev evsV' (l : List Event) : V := .lst 5 (l.map encEv)
@[simp] theorem clo_evs {n : Nat} {l : List Event} : V.closs n (l.map encEv) = true := closs_map fun _ => by simp
end Go.Proofs.YtlecbjcloleiiaaDoor.Val

/-! May the kernel have these rows? -/
set_option linter.unusedSimpArgs false
set_option linter.unusedVariables false
namespace Go.Proofs.YtlecbjcloleiiaaDoor.Val
open Go Go.Proofs.YtlecbjcloleiiaaDoor.Ram

/-- A row that the kernel takes. -/
def Row.ok (r : Row) : Prop := r.name ≠ [] ∧ r.name.length ≤ 2000 ∧ r.args.length ≤ 100 ∧ (∀ a ∈ r.args, a.length ≤ 2000) ∧ r.out.length ≤ 2000 ∧ 0 ≤ r.status ∧ r.status ≤ 255

theorem v_May_loop0 {a : List Row} {b : V} {S : VH} (hb : V.clo S.next b = true) (ha : a.length < 1000000) (hok : ∀ r ∈ a, r.ok) : ∀ (d j : Nat), j + d = a.length →
    loopX VT.E VT.Fl (VCall VT) c_world_May_l0 ⟨[(1, b), (23, rowsV a), (24, .int .i64 a.length), (25, .int .i64 j)], [], S⟩ = some (.exit 0, ⟨[(1, b), (23, rowsV a), (24, .int .i64 a.length), (25, .int .i64 a.length), (26, .bool false)], [], S⟩) := by
  have hK : ∀ f w h, loopX VT.E VT.Fl (VCall VT) c_world_May_l0 ⟨f, w, h⟩ = loopX VT.E VT.Fl (VCall VT) c_world_May_l0 ⟨VFr.keep f [1, 23, 24, 25], Rts.keep w.noCell [1, 23, 24, 25], h⟩ := fun _ _ _ => loopX_keep
  intro d
  induction d with
  | zero =>
    intro j hj
    obtain rfl : j = a.length := by omega
    rw [loopX_eq]
    simp -implicitDefEqProofs [c_world_May_l0, binA]
  | succ d ih =>
    intro j hj
    have h1 : j < a.length := by omega
    have hlt : (j : Int) < (a.length : Int) := by omega
    obtain ⟨x, hx, dx⟩ := next_at h1
    have hxo := hok x (List.mem_of_getElem? hx)
    have e2 : ¬ (100 : Int) < (x.args.length : Int) := by have := hxo.2.2.1; omega
    rw [loopX_eq]
    have := ih (j + 1) (by omega)
    push_cast at this
    generalize loopX VT.E VT.Fl (VCall VT) c_world_May_l0 = L at *
    simp -implicitDefEqProofs [c_world_May_l0, binA, hlt, hx, hb, e2, wrap_succ h1 (by omega)]
    rw [hK]
    simpa using this
theorem v_May_loop2 {a : List Row} {S : VH} (ha : a.length < 1000000) (hok : ∀ r ∈ a, r.ok) : ∀ (d j : Nat), j + d = a.length →
    loopX VT.E VT.Fl (VCall VT) c_world_May_l2 ⟨[(71, rowsV a), (72, .int .i64 a.length), (73, .int .i64 j)], [], S⟩ = some (.exit 5, ⟨[(71, rowsV a), (72, .int .i64 a.length), (73, .int .i64 a.length), (74, .bool false)], [], S⟩) := by
  have hK : ∀ f w h, loopX VT.E VT.Fl (VCall VT) c_world_May_l2 ⟨f, w, h⟩ = loopX VT.E VT.Fl (VCall VT) c_world_May_l2 ⟨VFr.keep f [71, 72, 73], Rts.keep w.noCell [71, 72, 73], h⟩ := fun _ _ _ => loopX_keep
  intro d
  induction d with
  | zero =>
    intro j hj
    obtain rfl : j = a.length := by omega
    rw [loopX_eq]
    simp -implicitDefEqProofs [c_world_May_l2, binA]
  | succ d ih =>
    intro j hj
    have h1 : j < a.length := by omega
    have hlt : (j : Int) < (a.length : Int) := by omega
    obtain ⟨x, hx, dx⟩ := next_at h1
    obtain ⟨o1, o2, o3, o4, o5, o6, o7⟩ := hok x (List.mem_of_getElem? hx)
    have e2 : ¬ (2000 : Int) < (x.name.length : Int) := by omega
    have e3 : ¬ (2000 : Int) < (x.out.length : Int) := by omega
    have e4 : ¬ x.status < 0 := by omega
    have e5 : ¬ (255 : Int) < x.status := by omega
    have e6 : (x.args.any fun s => decide (2000 < s.length)) = false := by
      rw [List.any_eq_false]; intro s hs; simpa using o4 s hs
    have hC := fun (S : VH) => v_Contains (g := F_world_May_1) (S := S) (p := fun s => decide (2000 < s.length)) (fun s => v_May_1) (a := x.args) (by omega)
    rw [loopX_eq]
    have := ih (j + 1) (by omega)
    push_cast at this
    generalize loopX VT.E VT.Fl (VCall VT) c_world_May_l2 = L at *
    simp -implicitDefEqProofs [c_world_May_l2, binA, hlt, hx, hC, e6, o1, e2, e3, e4, e5, wrap_succ h1 (by omega)]
    rw [hK]
    simpa using this
end Go.Proofs.YtlecbjcloleiiaaDoor.Val

/-! A world of rows only; the kernel's row. -/
set_option linter.unusedSimpArgs false
set_option linter.unusedVariables false
namespace Go.Proofs.YtlecbjcloleiiaaDoor.Val
open Go Go.Proofs.YtlecbjcloleiiaaDoor.Ram

theorem v_May_loop1 {b : V} {i : Nat} {S : VH} : loopX VT.E VT.Fl (VCall VT) c_world_May_l1 ⟨[(1, b), (5, .map (some i)), (37, .lst 2 []), (38, .int .i64 0), (39, .int .i64 0)], [], S⟩ = some (.exit 2, ⟨[(1, b), (5, .map (some i)), (37, .lst 2 []), (38, .int .i64 0), (39, .int .i64 0), (40, .bool false)], [], S⟩) := by
  rw [loopX_eq]
  simp -implicitDefEqProofs [c_world_May_l1, binA]
theorem v_May_rows {a : List Row} {S : VH} (ha : a.length ≤ 50) (hok : ∀ r ∈ a, r.ok) : VCall VT F_world_May [.agg [.lst 2 [], rowsV a]] [] S = some (.nilI, [], S) := by
  rw [VCall_of (F := a_world_May) rfl rfl rfl rfl]
  have e1 : ¬ (50 : Int) < (a.length : Int) := by omega
  have h0 := fun (S : VH) (b : V) (hb : V.clo S.next b = true) => v_May_loop0 (S := S) hb (by omega) hok a.length 0 (by omega)
  have h2 := fun (S : VH) => v_May_loop2 (S := S) (by omega) hok a.length 0 (by omega)
  push_cast at h0 h2
  simp -implicitDefEqProofs [a_world_May, c_world_May, binA, e1, h0, v_May_loop1, h2]

/-- Does the row fit? -/
def Row.fits (r : Row) (n : Str) (l : List Str) : Bool := decide (r.name = n) && (r.any || decide (r.args = l))
def noRow : Row := ⟨[], [], false, false, false, [], 127⟩
def findRow (a : List Row) (n : Str) (l : List Str) : Row × Bool := match a.find? (·.fits n l) with
  | some r => (r, true)
  | none => (noRow, false)
theorem v_row_loop {a : List Row} {n : Str} {l : List Str} {S : VH} {k : Nat} (hk : k < S.next) (hg : S.get k = some (.cells [.str [], .lst 1 [], .bool false, .bool false, .bool false, .str [], .int .i64 0] [1])) (hl : l.length < 1000000) (ha : a.length < 1000000) (hok : ∀ r ∈ a, r.args.length < 1000000) : ∀ (d j : Nat), j + d = a.length →
    ((a.drop j).find? (·.fits n l) = none ∧ loopX VT.E VT.Fl (VCall VT) c_world_Kernel_row_l0 ⟨[(1, .str n), (2, strsV l), (6, .ptr (some (k, 0))), (13, rowsV a), (14, .int .i64 a.length), (15, .int .i64 j)], [], S⟩ = some (.exit 0, ⟨[(1, .str n), (2, strsV l), (6, .ptr (some (k, 0))), (13, rowsV a), (14, .int .i64 a.length), (15, .int .i64 a.length), (16, .bool false)], [], S⟩)) ∨
    (∃ r, (a.drop j).find? (·.fits n l) = some r ∧ ∃ (o : VObj) (f : VFr), loopX VT.E VT.Fl (VCall VT) c_world_Kernel_row_l0 ⟨[(1, .str n), (2, strsV l), (6, .ptr (some (k, 0))), (13, rowsV a), (14, .int .i64 a.length), (15, .int .i64 j)], [], S⟩ = some (.ret, ⟨(7, .bool true) :: f, [], (S.push o).set k (.cells (encRow r) [])⟩) ∧ VFr.get f 6 = some (.ptr (some (k, 0)))) := by
  have hK : ∀ f w h, loopX VT.E VT.Fl (VCall VT) c_world_Kernel_row_l0 ⟨f, w, h⟩ = loopX VT.E VT.Fl (VCall VT) c_world_Kernel_row_l0 ⟨VFr.keep f [1, 2, 6, 13, 14, 15], Rts.keep w.noCell [1, 2, 6, 13, 14, 15], h⟩ := fun _ _ _ => loopX_keep
  intro d
  induction d with
  | zero =>
    intro j hj
    obtain rfl : j = a.length := by omega
    left
    rw [loopX_eq]
    simp -implicitDefEqProofs [c_world_Kernel_row_l0, binA]
  | succ d ih =>
    intro j hj
    have h1 : j < a.length := by omega
    have hlt : (j : Int) < (a.length : Int) := by omega
    obtain ⟨x, hx, dx⟩ := next_at h1
    have hxo := hok x (List.mem_of_getElem? hx)
    have hE := fun (S : VH) => v_Equal (S := S) (a := x.args) (b := l) hxo
    have hkn : k ≠ S.next := by omega
    rw [loopX_eq, dx]
    have := ih (j + 1) (by omega)
    push_cast at this
    generalize loopX VT.E VT.Fl (VCall VT) c_world_Kernel_row_l0 = L at *
    have hf : (x :: a.drop (j + 1)).find? (fun r : Row => r.fits n l) = match x.fits n l with | true => some x | false => (a.drop (j + 1)).find? (fun r : Row => r.fits n l) := List.find?_cons
    by_cases e : x.name = n
    · cases ea : x.any with
      | true =>
        rw [hf, show x.fits n l = true by simp [Row.fits, e, ea]]
        right
        refine ⟨x, rfl, .cells (encRow x) [], ?_⟩
        simp -implicitDefEqProofs [c_world_Kernel_row_l0, binA, hlt, hx, e, ea, hk, hkn, hg, encRow]
        first | done | exact ⟨_, rfl, rfl⟩ | exact ⟨_, ⟨rfl, rfl⟩, rfl⟩
      | false =>
        by_cases e2 : x.args = l
        · rw [hf, show x.fits n l = true by simp [Row.fits, e, e2]]
          right
          refine ⟨x, rfl, .cells (encRow x) [], ?_⟩
          simp -implicitDefEqProofs [c_world_Kernel_row_l0, binA, hlt, hx, e, ea, (fun S => (hE S).trans (by rw [decide_eq_true e2]) : ∀ S, VCall VT F_slices_Equal_string_string [strsV x.args, strsV l] [] S = some (.bool true, [], S)), hk, hkn, hg, encRow]
          first | done | exact ⟨_, rfl, rfl⟩ | exact ⟨_, ⟨rfl, rfl⟩, rfl⟩
        · rw [hf, show x.fits n l = false by simp [Row.fits, e, e2, ea]]
          simp -implicitDefEqProofs [c_world_Kernel_row_l0, binA, hlt, hx, e, ea, e2, hE, hk, hkn, hg, wrap_succ h1 (by omega)]
          rw [hK]
          simpa using this
    · rw [hf, show x.fits n l = false by simp [Row.fits, e]]
      simp -implicitDefEqProofs [c_world_Kernel_row_l0, binA, hlt, hx, e, hE, hk, hkn, hg, wrap_succ h1 (by omega)]
      rw [hK]
      simpa using this
/-- A kernel in the heap. -/
structure Kern where
  trace : List Event
  files : V
  rows : List Row
abbrev encK (K : Kern) : List V := [evsV' K.trace, K.files, rowsV K.rows]
def IsK (S : VH) (i : Nat) (K : Kern) : Prop := i < S.next ∧ ∃ own, S.get i = some (.cells (encK K) own) ∧ 0 ∈ own ∧ V.clo S.next K.files = true
theorem v_row {K : Kern} {n : Str} {l : List Str} {S : VH} {i : Nat} (hi : IsK S i K) (hl : l.length < 1000000) (ha : K.rows.length < 1000000) (hok : ∀ r ∈ K.rows, r.args.length < 1000000) :
    VCall VT F_world_Kernel_row [.ptr (some (i, 0)), .str n, strsV l] [] S = some (.tup [.agg (encRow (findRow K.rows n l).1), .bool (findRow K.rows n l).2], [], S) := by
  rw [VCall_of (F := a_world_Kernel_row) rfl rfl rfl rfl]
  obtain ⟨h1, own, h2, _⟩ := hi
  have h3 : i ≠ S.next := by omega
  have key := fun (S : VH) (k : Nat) hk hg => v_row_loop (S := S) (k := k) (n := n) hk hg hl ha hok K.rows.length 0 (by omega)
  have := key (S.push (.cells [.str [], .lst 1 [], .bool false, .bool false, .bool false, .str [], .int .i64 0] [1])) S.next (by simp) (by simp)
  push_cast at this
  rw [List.drop_zero] at this
  unfold findRow
  rcases this with ⟨e, this⟩ | ⟨r, e, o, f, this, hf⟩
  · by_cases ho : 2 ∈ own <;> simp -implicitDefEqProofs [a_world_Kernel_row, c_world_Kernel_row, binA, h1, h2, h3, ho, this, e, noRow]
  · by_cases ho : 2 ∈ own <;> simp -implicitDefEqProofs [a_world_Kernel_row, c_world_Kernel_row, binA, h1, h2, h3, ho, this, e, hf]
end Go.Proofs.YtlecbjcloleiiaaDoor.Val

/-! The kernel's Reads, note, Exec, copied, Trace. -/
set_option linter.unusedSimpArgs false
set_option linter.unusedVariables false
namespace Go.Proofs.YtlecbjcloleiiaaDoor.Val
open Go Go.Proofs.YtlecbjcloleiiaaDoor.Ram

theorem v_Reads {K : Kern} {n : Str} {l : List Str} {S : VH} {i : Nat} (hi : IsK S i K) (hl : l.length < 1000000) (ha : K.rows.length < 1000000) (hok : ∀ r ∈ K.rows, r.args.length < 1000000) :
    VCall VT F_world_Kernel_Reads [.ptr (some (i, 0)), .str n, strsV l] [] S = some (.bool (findRow K.rows n l).1.reads, [], S) := by
  rw [VCall_of (F := a_world_Kernel_Reads) rfl rfl rfl rfl]
  have hr := v_row (n := n) hi hl ha hok
  have hn : (findRow K.rows n l).2 = false → (findRow K.rows n l).1.reads = false := by
    unfold findRow; split <;> simp [noRow]
  generalize findRow K.rows n l = q at *
  obtain ⟨r, b⟩ := q
  cases b
  · simp only at hn
    simp -implicitDefEqProofs [a_world_Kernel_Reads, c_world_Kernel_Reads, hr, hn]
  · simp -implicitDefEqProofs [a_world_Kernel_Reads, c_world_Kernel_Reads, hr, hn]

/-- The rights behind a note. -/
def ownN (own : List Nat) : List Nat := 0 :: keepO (own.filter (· != 0)) 0 1
@[simp] theorem mem_ownN {own : List Nat} : 0 ∈ ownN own := List.mem_cons_self
theorem v_note {K : Kern} {k n : Int} {a b : Str} {l : List Str} {S : VH} {i : Nat} {own : List Nat} (ht : K.trace.length < 1000000) (h1 : i < S.next) (h2 : S.get i = some (.cells (encK K) own)) (h4 : 0 ∈ own) (h5 : V.clo S.next K.files = true) :
    VCall VT F_world_asked_note [.ptr (some (i, 0)), .agg [.int .i64 k, .int .i64 n, .str a, .str b, strsV l]] [] S = some (.tup [], [], S.set i (.cells (encK { K with trace := K.trace ++ [⟨k, n, a, b, l⟩] }) (ownN own))) := by
  have h3 : i ≠ S.next := by omega
  have e2 : (K.trace.length + 1) * 72 ≤ 140737488355328 := by omega
  rw [VCall_of (F := a_world_asked_note) rfl rfl rfl rfl]
  simp -implicitDefEqProofs [a_world_asked_note, c_world_asked_note, h1, h2, h3, h4, h5, e2, trim_in h1]
  simp [encK, ownN, encEv, evsV']
theorem v_Exec {K : Kern} {n inp : Str} {l : List Str} {S : VH} {i : Nat} {own : List Nat} (ht : K.trace.length < 1000000) (h1 : i < S.next) (h2 : S.get i = some (.cells (encK K) own)) (h4 : 0 ∈ own) (h5 : ∀ m, S.next ≤ m → V.clo m K.files = true) (hl : l.length < 1000000) (ha : K.rows.length < 1000000) (hok : ∀ r ∈ K.rows, r.args.length < 1000000) (hin : (inp.length : Int) < 1000000000) (hout : ((findRow K.rows n l).1.out.length : Int) < 1000000000) :
    VCall VT F_world_Kernel_Exec [.ptr (some (i, 0)), .str n, .str inp, strsV l] [] S = some (.tup [.str ((findRow K.rows n l).1.out ++ if (findRow K.rows n l).1.copy then inp else []), .int .i64 (findRow K.rows n l).1.status, .bool (findRow K.rows n l).2], [],
      S.set i (.cells (encK { K with trace := K.trace ++ [⟨1, (findRow K.rows n l).1.status, n, if (findRow K.rows n l).1.reads then inp else [], l⟩] }) (ownN own))) := by
  have h3 : i ≠ S.next := by omega
  have h3' : i ≠ S.next + 1 := by omega
  have h1' : i < S.next + 1 := by omega
  have h1'' : i < S.next + 1 + 1 := by omega
  have hr := v_row (n := n) ⟨h1, own, h2, h4, h5 _ (Nat.le_refl _)⟩ hl ha hok
  have hC := fun (S : VH) => v_Clone_string (l := l.map strRow) (S := S) (by simpa using hl)
  have hN := fun (k n' : Int) (a b : Str) (l : List Str) (S : VH) => v_note (K := K) (k := k) (n := n') (a := a) (b := b) (l := l) (S := S) (i := i) (own := own) ht
  have h5' := h5 _ (Nat.le_refl _)
  have h5a := h5 (S.next + 1 + 1) (by omega)
  have h5b := h5 (S.next + 2) (by omega)
  have h1a : i < S.next + 2 := by omega
  have h3s : ¬ S.next = i := by omega
  generalize findRow K.rows n l = q at *
  obtain ⟨⟨rn, ra, ry, rr, rc, ro, rs⟩, b⟩ := q
  rw [VCall_of (F := a_world_Kernel_Exec) rfl rfl rfl rfl]
  simp only at hr hout
  have hmx : (ro.length : Int) + (inp.length : Int) ≤ 9223372036854775807 := by omega
  cases rr <;> cases rc <;> simp -implicitDefEqProofs [a_world_Kernel_Exec, c_world_Kernel_Exec, binA, h1, h1', h1'', h1a, h2, h3, h3', h3s, hmx, h4, h5', h5a, h5b, hr, hC, hN, encRow, trim_in h1]
/-- The cells of events. -/
def evC (l : List Event) : List V := (l.map encEv).flatten
@[simp] theorem evC_nil : evC [] = [] := rfl
theorem evC_app {l l' : List Event} : evC (l ++ l') = evC l ++ evC l' := by simp [evC]
theorem evC_snoc {l : List Event} {e : Event} : evC l ++ encEv e = evC (l ++ [e]) := by simp [evC]
@[simp] theorem evC_len {l : List Event} : (evC l).length = l.length * 5 := by
  induction l with
  | nil => rfl
  | cons e l ih => simp only [evC, List.map_cons, List.flatten_cons, List.length_append, List.length_cons, List.length_nil] at ih ⊢; rw [ih]; omega
@[simp] theorem clos_evC {n : Nat} {l : List Event} : V.clos n (evC l) = true := by
  induction l with
  | nil => rfl
  | cons e l ih => simp only [evC, List.map_cons, List.flatten_cons, clos_app] at ih ⊢; rw [ih]; simp
theorem rowsOf_ev : ∀ {l : List Event} {cs : List V}, rowsOf 5 l.length (evC l ++ cs) = l.map encEv
  | [], _ => rfl
  | e :: l, cs => by
    have := rowsOf_ev (l := l) (cs := cs)
    simp only [evC, List.map_cons, List.flatten_cons, List.length_cons, rowsOf_s, List.append_assoc] at this ⊢
    rw [List.take_append_of_le_length (by simp), List.drop_append_of_le_length (by simp)]
    simp [this]
/-- What was there is as it was. -/
def Fresh (S S' : VH) : Prop := S.next ≤ S'.next ∧ ∀ q, q < S.next → S'.get q = S.get q
theorem Fresh.clo {S S' : VH} (h : Fresh S S') : cloH S S' := fun q hq => .inl (h.2 q hq)
theorem Fresh.trim {S S' : VH} (h : Fresh S S') : VH.trim S S' = S := by
  unfold VH.trim
  congr 1
  funext q
  split
  · rename_i e; exact h.2 q e
  · rfl
/-- Events in a block that is written. -/
def EvAt (S0 S : VH) (out : V) (l : List Event) : Prop := Fresh S0 S ∧ ((l = [] ∧ out = .sl none 5 0 none) ∨ (l ≠ [] ∧ ∃ i, S0.next ≤ i ∧ i < S.next ∧ out = .sl (some (i, 0)) 5 l.length none ∧ S.get i = some (.cells (evC l) [])))
theorem v_copied_loop {a : List Event} {S0 : VH} (ha : a.length < 1000000) (hok : ∀ e ∈ a, e.l.length < 1000000) : ∀ (d j : Nat) (out : V) (w : Rts) (S : VH), j + d = a.length → EvAt S0 S out (a.take j) → (w = [] ∨ w = [(3, .own)]) →
    ∃ out' w' S', EvAt S0 S' out' a ∧ loopX VT.E VT.Fl (VCall VT) c_world_copied_l0 ⟨[(3, out), (6, evsV' a), (7, .int .i64 a.length), (8, .int .i64 j)], w, S⟩ =
      some (.exit 0, ⟨[(3, out'), (6, evsV' a), (7, .int .i64 a.length), (8, .int .i64 a.length), (9, .bool false)], w', S'⟩) := by
  have hK : ∀ f w h, loopX VT.E VT.Fl (VCall VT) c_world_copied_l0 ⟨f, w, h⟩ = loopX VT.E VT.Fl (VCall VT) c_world_copied_l0 ⟨VFr.keep f [3, 6, 7, 8], Rts.keep w.noCell [3, 6, 7, 8], h⟩ := fun _ _ _ => loopX_keep
  intro d
  induction d with
  | zero =>
    intro j out w S hj ho hw
    obtain rfl : j = a.length := by omega
    rw [List.take_length] at ho
    refine ⟨out, w, S, ho, ?_⟩
    rw [loopX_eq]
    rcases hw with rfl | rfl <;> simp -implicitDefEqProofs [c_world_copied_l0, binA]
  | succ d ih =>
    intro j out w S hj ho hw
    have h1 : j < a.length := by omega
    have hlt : (j : Int) < (a.length : Int) := by omega
    obtain ⟨x, hx, dx⟩ := next_at h1
    have hC := fun (S : VH) => v_Clone_string (l := x.l.map strRow) (S := S) (by simpa using hok x (List.mem_of_getElem? hx))
    have htk : a.take (j + 1) = a.take j ++ [x] := by rw [List.take_add_one, hx]; rfl
    have c1 : ¬ (S.next + 1 + 1 < S.next) := by omega
    have c2 : ¬ (S.next + 1 + 1 = S.next) := by omega
    have c3 : ¬ (S.next + 1 = S.next) := by omega
    have c4 : ¬ (S.next = S.next + 1) := by omega
    suffices key : ∃ out1 w1 S1, EvAt S0 S1 out1 (a.take (j + 1)) ∧ (w1 = [] ∨ w1 = [(3, Tag.own)]) ∧ loopX VT.E VT.Fl (VCall VT) c_world_copied_l0 ⟨[(3, out), (6, evsV' a), (7, .int .i64 a.length), (8, .int .i64 j)], w, S⟩ =
        loopX VT.E VT.Fl (VCall VT) c_world_copied_l0 ⟨[(3, out1), (6, evsV' a), (7, .int .i64 a.length), (8, .int .i64 ((j : Int) + 1))], w1, S1⟩ from by
      obtain ⟨out1, w1, S1, k1, k2, k3⟩ := key
      have := ih (j + 1) out1 w1 S1 (by omega) k1 k2
      push_cast at this
      rw [k3]; exact this
    obtain ⟨hF, ho⟩ := ho
    rcases ho with ⟨h0, rfl⟩ | ⟨h0, i, g1, g2, rfl, g4⟩
    · refine ⟨.sl (some (S.next + 1 + 1, 0)) 5 1 none, [], ((S.push (.cells (encEv x) [])).push (.cells (encEv x) [])).push (.cells (encEv x) []), ⟨⟨by simp; have := hF.1; omega, fun q hq => ?_⟩, .inr ⟨by rw [htk]; simp, S.next + 1 + 1, by have := hF.1; omega, by simp, by rw [htk, h0]; rfl, by rw [htk, h0]; simp [evC]⟩⟩, .inl rfl, ?_⟩
      · have := hF.1
        have e1 : ¬ q = S.next + 1 + 1 := by omega
        have e2 : ¬ q = S.next + 1 := by omega
        have e3 : ¬ q = S.next := by omega
        simp [e1, e2, e3, hF.2 q hq]
      · rw [loopX_eq]
        generalize loopX VT.E VT.Fl (VCall VT) c_world_copied_l0 = L at *
        rcases hw with rfl | rfl <;> (simp -implicitDefEqProofs [c_world_copied_l0, binA, hlt, hx, hC, c1, c2, c3, c4, wrap_succ h1 (by omega)]; rw [hK]; simp)
    · have hlen : (a.take j).length = j := by simp; omega
      have e2 : (j + 1) * 72 ≤ 140737488355328 := by omega
      have hin : i ≠ S.next := by omega
      have hin1 : i ≠ S.next + 1 := by omega
      have hin2 : i ≠ S.next + 1 + 1 := by omega
      refine ⟨.sl (some (S.next + 1 + 1, 0)) 5 (j + 1) none, [], killV (((S.push (.cells (encEv x) [])).push (.cells (encEv x) [])).push (.cells (evC (a.take j) ++ encEv x) [])) i, ⟨⟨by simp; have := hF.1; omega, fun q hq => ?_⟩, .inr ⟨by rw [htk]; simp, S.next + 1 + 1, by have := hF.1; omega, by simp, by rw [htk]; simp; omega, by rw [htk]; simp [Ne.symm hin2, evC_snoc]⟩⟩, .inl rfl, ?_⟩
      · have := hF.1
        have e1 : ¬ q = S.next + 1 + 1 := by omega
        have e2 : ¬ q = S.next + 1 := by omega
        have e3 : ¬ q = S.next := by omega
        have e4 : ¬ q = i := by omega
        simp [e1, e2, e3, e4, hF.2 q hq]
      · rw [hlen] at *
        rw [loopX_eq]
        generalize loopX VT.E VT.Fl (VCall VT) c_world_copied_l0 = L at *
        rcases hw with rfl | rfl <;> (simp -implicitDefEqProofs [c_world_copied_l0, binA, hlt, hx, hC, g2, g4, c1, c2, c3, c4, hin, hin1, hin2, e2, Nat.min_eq_left (Nat.le_of_lt h1), wrap_succ h1 (by omega)]; rw [hK]; simp)
theorem v_copied {a : List Event} {S : VH} (ha : a.length < 1000000) (hok : ∀ e ∈ a, e.l.length < 1000000) : ∃ out S', EvAt S S' out a ∧ VCall VT F_world_copied [evsV' a] [] S = some (out, [], S') := by
  obtain ⟨out', w', S', h1, h2⟩ := v_copied_loop (S0 := S) ha hok a.length 0 (.sl none 5 0 none) [(3, .own)] S (by omega) ⟨⟨Nat.le_refl _, fun _ _ => rfl⟩, .inl ⟨rfl, rfl⟩⟩ (.inr rfl)
  push_cast at h2
  refine ⟨out', S', h1, ?_⟩
  rw [VCall_made (F := a_world_copied) rfl rfl rfl rfl]
  simp -implicitDefEqProofs [a_world_copied, c_world_copied, h2]
/-- A block of events as a list. -/
theorem EvAt.frz {S S' : VH} {out : V} {a : List Event} (h : EvAt S S' out a) : frzV S.next S' out = evsV' a := by
  rcases h.2 with ⟨rfl, rfl⟩ | ⟨_, i, g1, g2, rfl, g4⟩
  · rfl
  · have := rowsOf_ev (l := a) (cs := [])
    rw [List.append_nil] at this
    have e : ¬ i < S.next := by omega
    simp [e, g4, this]
theorem v_Trace {K : Kern} {S : VH} {i : Nat} {own : List Nat} (ht : K.trace.length < 1000000) (hok : ∀ e ∈ K.trace, e.l.length < 1000000) (h1 : i < S.next) (h2 : S.get i = some (.cells (encK K) own)) (h4 : 0 ∈ own) :
    VCall VT F_world_asked_Trace [.ptr (some (i, 0))] [] S = some (evsV' K.trace, [], S) := by
  obtain ⟨out, S', k1, hc⟩ := v_copied (S := S) ht hok
  have k2 := k1.frz
  have k3 := k1.1.clo
  have k4 := k1.1.trim
  rw [VCall_frz (F := a_world_asked_Trace) rfl rfl rfl rfl]
  simp -implicitDefEqProofs [a_world_asked_Trace, c_world_asked_Trace, h1, h2, h4, hc, k2, k3, k4]
end Go.Proofs.YtlecbjcloleiiaaDoor.Val

/-! A new kernel of rows only. -/
set_option linter.unusedSimpArgs false
set_option linter.unusedVariables false
namespace Go.Proofs.YtlecbjcloleiiaaDoor.Val
open Go Go.Proofs.YtlecbjcloleiiaaDoor.Ram

def ownR (own : List Nat) : List Nat := 2 :: keepO (own.filter (· != 2)) 2 1
@[simp] theorem mem_ownR {own : List Nat} : 2 ∈ ownR own := List.mem_cons_self
@[simp] theorem mem_ownR0 {own : List Nat} (h : 0 ∈ own) : 0 ∈ ownR own := List.mem_cons_of_mem _ (by
  unfold keepO
  exact List.mem_filter.2 ⟨List.mem_filter.2 ⟨h, by simp⟩, by simp⟩)
theorem v_New_loop {a : List Row} {fl : V} {k : Nat} (ha : a.length < 1000000) (hok : ∀ r ∈ a, r.args.length < 1000000) : ∀ (d j : Nat) (out : List Row) (own : List Nat) (S : VH), j + d = a.length → out.length = j → k < S.next → V.clo S.next fl = true → 0 ∈ own → 2 ∈ own → S.get k = some (.cells [.lst 5 [], fl, rowsV out] own) →
    ∃ own', 0 ∈ own' ∧ 2 ∈ own' ∧ loopX VT.E VT.Fl (VCall VT) c_world_New_l0 ⟨[(5, .ptr (some (k, 0))), (24, rowsV a), (25, .int .i64 a.length), (26, .int .i64 j)], [], S⟩ =
      some (.exit 0, ⟨[(5, .ptr (some (k, 0))), (24, rowsV a), (25, .int .i64 a.length), (26, .int .i64 a.length), (27, .bool false)], [], S.set k (.cells [.lst 5 [], fl, rowsV (out ++ a.drop j)] own')⟩) := by
  have hK : ∀ f w h, loopX VT.E VT.Fl (VCall VT) c_world_New_l0 ⟨f, w, h⟩ = loopX VT.E VT.Fl (VCall VT) c_world_New_l0 ⟨VFr.keep f [5, 24, 25, 26], Rts.keep w.noCell [5, 24, 25, 26], h⟩ := fun _ _ _ => loopX_keep
  intro d
  induction d with
  | zero =>
    intro j out own S hj ho hk hf h0 h2 hg
    obtain rfl : j = a.length := by omega
    refine ⟨own, h0, h2, ?_⟩
    rw [loopX_eq]
    simp -implicitDefEqProofs [c_world_New_l0, binA]
    have : S.set k (.cells [.lst 5 [], fl, rowsV out] own) = S := by
      unfold VH.set; congr 1; funext j; by_cases e : j = k <;> simp [e, hg]
    simpa [rowsV] using this.symm
  | succ d ih =>
    intro j out own S hj ho hk hf h0 h2 hg
    have h1 : j < a.length := by omega
    have hlt : (j : Int) < (a.length : Int) := by omega
    obtain ⟨x, hx, dx⟩ := next_at h1
    have hxo := hok x (List.mem_of_getElem? hx)
    have hC := fun (S : VH) => v_Clone_string (l := x.args.map strRow) (S := S) (by simpa using hxo)
    have hkn : k ≠ S.next := by omega
    have hks : ¬ S.next = k := by omega
    have hk1 : k < S.next + 1 := by omega
    obtain ⟨own', g0, g2, this⟩ := ih (j + 1) (out ++ [x]) (ownR own) (S.set k (.cells [.lst 5 [], fl, rowsV (out ++ [x])] (ownR own))) (by omega) (by simp [ho]) hk hf (mem_ownR0 h0) mem_ownR (by simp)
    push_cast at this
    refine ⟨own', g0, g2, ?_⟩
    have e2 : (out.length + 1) * 72 ≤ 140737488355328 := by omega
    rw [loopX_eq, dx]
    generalize loopX VT.E VT.Fl (VCall VT) c_world_New_l0 = L at *
    simp -implicitDefEqProofs [c_world_New_l0, binA, hlt, hx, hC, hkn, hks, hk, hk1, hg, hf, h2, e2, trim_in hk, wrap_succ h1 (by omega)]
    rw [hK]
    simpa [rowsV, encRow, ownR] using this
set_option maxRecDepth 20000 in
theorem v_Len64_0 {S : VH} : VCall VT F_math_bits_Len64 [.int .u64 0] [] S = some (.int .i64 0, [], S) := by
  rw [VCall_of (F := a_math_bits_Len64) rfl rfl rfl rfl]
  simp -implicitDefEqProofs [a_math_bits_Len64, c_math_bits_Len64, binA, chrV, show IntKind.u8.wrap 0 = 0 from rfl, show IntKind.i64.wrap 0 = 0 from rfl]
theorem v_Len_0 {S : VH} : VCall VT F_math_bits_Len [.int .u64 0] [] S = some (.int .i64 0, [], S) := by
  rw [VCall_of (F := a_math_bits_Len) rfl rfl rfl rfl]
  simp -implicitDefEqProofs [a_math_bits_Len, c_math_bits_Len, binA, v_Len64_0]
theorem v_insertion_0 {g : Nat} {S : VH} : VCall VT F_slices_insertionSortCmpFunc_api_File [.lst 2 [], .int .i64 0, .int .i64 0, .fn g []] [] S = some (.tup [], [], S) := by
  rw [VCall_of (F := a_slices_insertionSortCmpFunc_api_File) rfl rfl rfl rfl]
  have : loopX VT.E VT.Fl (VCall VT) c_slices_insertionSortCmpFunc_api_File_l1 ⟨[(0, .lst 2 []), (1, .int .i64 0), (2, .int .i64 0), (3, .fn g []), (8, .int .i64 1)], [], S⟩ = some (.exit 0, ⟨[(0, .lst 2 []), (1, .int .i64 0), (2, .int .i64 0), (3, .fn g []), (8, .int .i64 1), (14, .bool false)], [], S⟩) := by
    rw [loopX_eq]
    simp -implicitDefEqProofs [c_slices_insertionSortCmpFunc_api_File_l1, binA]
  simp -implicitDefEqProofs [a_slices_insertionSortCmpFunc_api_File, c_slices_insertionSortCmpFunc_api_File, binA, this, show IntKind.i64.wrap 1 = 1 from rfl]
theorem v_pdq_0 {g : Nat} {S : VH} : VCall VT F_slices_pdqsortCmpFunc_api_File [.lst 2 [], .int .i64 0, .int .i64 0, .int .i64 0, .fn g []] [] S = some (.tup [], [], S) := by
  rw [VCall_of (F := a_slices_pdqsortCmpFunc_api_File) rfl rfl rfl rfl]
  have : ∃ f, loopX VT.E VT.Fl (VCall VT) c_slices_pdqsortCmpFunc_api_File_l0 ⟨[(0, .lst 2 []), (1, .int .i64 0), (2, .int .i64 0), (3, .int .i64 0), (4, .fn g []), (10, .bool true), (11, .bool true)], [], S⟩ = some (.ret, ⟨f, [], S⟩) := by
    rw [loopX_eq]
    generalize loopX VT.E VT.Fl (VCall VT) c_slices_pdqsortCmpFunc_api_File_l0 = L
    simp -implicitDefEqProofs [c_slices_pdqsortCmpFunc_api_File_l0, binA, v_insertion_0, show IntKind.i64.wrap 0 = 0 from rfl]
  obtain ⟨f, this⟩ := this
  simp -implicitDefEqProofs [a_slices_pdqsortCmpFunc_api_File, c_slices_pdqsortCmpFunc_api_File, binA, this]
theorem v_Sort_0 {g : Nat} {S : VH} : VCall VT F_slices_SortFunc_api_File_api_File [.lst 2 [], .fn g []] [] S = some (.tup [], [], S) := by
  rw [VCall_of (F := a_slices_SortFunc_api_File_api_File) rfl rfl rfl rfl]
  simp -implicitDefEqProofs [a_slices_SortFunc_api_File_api_File, c_slices_SortFunc_api_File_api_File, binA, v_Len_0, v_pdq_0, show IntKind.u64.wrap 0 = 0 from rfl]
theorem v_New_rows {a : List Row} {S : VH} (ha : a.length ≤ 50) (hok : ∀ r ∈ a, r.ok) : ∃ own own', 0 ∈ own' ∧ 2 ∈ own' ∧ VCall VT F_world_New [.agg [.lst 2 [], rowsV a]] [] S =
    some (.tup [.ptr (some (S.next + 1, 0)), .nilI], [], (S.push (.cells [.lst 2 [], rowsV a] own)).push (.cells (encK ⟨[], .lst 2 [], a⟩) own')) := by
  have hM := fun (S : VH) => v_May_rows (S := S) ha hok
  have hL := fun (S : VH) => v_New_loop (fl := .lst 2 []) (S := (S.push (.cells [.lst 2 [], rowsV a] [])).push (.cells [.lst 5 [], .lst 2 [], .lst 7 []] [0, 2])) (k := S.next + 1) (a := a) (by omega) (fun r hr => by have := (hok r hr).2.2.1; omega) a.length 0 [] [0, 2] (by omega) rfl (by simp) (by simp) (by simp) (by simp) (by simp)
  obtain ⟨own', g0, g2, this⟩ := hL S
  push_cast at this
  refine ⟨[], own', g0, g2, ?_⟩
  rw [VCall_made (F := a_world_New) rfl rfl rfl rfl]
  simp -implicitDefEqProofs [a_world_New, c_world_New, binA, hM, v_Clone_File, v_Sort_0, this]
  rfl
end Go.Proofs.YtlecbjcloleiiaaDoor.Val

/-! Files: may they be; where a name stands. -/
set_option linter.unusedSimpArgs false
set_option linter.unusedVariables false
namespace Go.Proofs.YtlecbjcloleiiaaDoor.Val
open Go Go.Proofs.YtlecbjcloleiiaaDoor.Ram

structure File where
  name : Str
  data : Str
abbrev fileRow (f : File) : List V := [.str f.name, .str f.data]
abbrev filesV (l : List File) : V := .lst 2 (l.map fileRow)
def filesC (l : List File) : List V := (l.map fileRow).flatten
@[simp] theorem filesC_nil : filesC [] = [] := rfl
@[simp] theorem filesC_cons {f : File} {l : List File} : filesC (f :: l) = .str f.name :: .str f.data :: filesC l := rfl
@[simp] theorem clos_filesC {n : Nat} {l : List File} : V.clos n (filesC l) = true := by
  induction l with
  | nil => rfl
  | cons f l ih => simp [ih]
def File.ok (f : File) : Prop := f.name ≠ [] ∧ f.name.length ≤ 2000 ∧ f.data.length ≤ 16384

@[simp] theorem clo_files {n : Nat} {l : List File} : V.closs n (l.map fileRow) = true := closs_map fun _ => rfl
/-! maps -/
section
variable {S : VH} {i : Nat} {d v : V} {s k : List UInt8} {ok : Bool} {l : List (List UInt8 × V)}
def pickM (o : Option V) (d : V) (ok : Bool) : V := match o with
  | some v => if ok then .tup [v, .bool true] else v
  | none => if ok then .tup [d, .bool false] else d
@[simp] theorem pickM_0 : pickM none d false = d := nd rfl
@[simp] theorem pickM_1 : pickM (some v) d false = v := nd rfl
@[simp] theorem pickM_2 : pickM none d true = .tup [d, .bool false] := nd rfl
@[simp] theorem pickM_3 : pickM (some v) d true = .tup [v, .bool true] := nd rfl
def lookO (o : Option VObj) (d : V) (ok : Bool) (s : List UInt8) : Option V := match o with
  | some (.map l) => some (pickM (mapGetV l s) d ok)
  | _ => none
@[simp] theorem look_m : lookupV S d ok (.map (some i)) (.str s) = lookO (S.get i) d ok s := by
  rcases h : S.get i with _ | (_ | l) <;> simp only [lookupV, lookO, pickM, h]
  cases mapGetV l s <;> rfl
@[simp] theorem lookO_m : lookO (some (.map l)) d ok s = some (pickM (mapGetV l s) d ok) := nd rfl
theorem get_set {l : List (List UInt8 × V)} : mapGetV (mapSetV l k v) s = if s = k then some v else mapGetV l s := by
  induction l with
  | nil => by_cases e : k = s <;> simp [mapSetV, mapGetV, List.find?_cons, e]; simp [Ne.symm e]
  | cons p l ih =>
    obtain ⟨q, u⟩ := p
    simp only [mapSetV]
    by_cases e : q = k
    · subst e
      simp only [BEq.rfl, if_true]
      by_cases e2 : q = s
      · subst e2; simp [mapGetV]
      · simp [mapGetV, List.find?_cons, e2, Ne.symm e2]
    · have e' : (q == k) = false := by simpa using e
      simp only [e', Bool.false_eq_true, if_false]
      by_cases e2 : q = s
      · subst e2; simp [mapGetV, e]
      · have e3 : (q == s) = false := by simpa using e2
        simp only [mapGetV, List.find?_cons, e3] at ih ⊢
        exact ih
theorem set_clo {n : Nat} (h : ∀ p ∈ l, V.clo n p.2 = true) (hv : V.clo n v = true) : ∀ p ∈ mapSetV l k v, V.clo n p.2 = true := by
  induction l with
  | nil => intro p hp; simp [mapSetV] at hp; subst hp; exact hv
  | cons q l ih =>
    obtain ⟨q, u⟩ := q
    intro p hp
    simp only [mapSetV] at hp
    split at hp
    · rcases List.mem_cons.1 hp with rfl | hp
      · exact hv
      · exact h p (List.mem_cons_of_mem _ hp)
    · rcases List.mem_cons.1 hp with rfl | hp
      · exact h _ List.mem_cons_self
      · exact ih (fun p hp => h p (List.mem_cons_of_mem _ hp)) p hp
end
theorem set_self {S : VH} {i : Nat} {o : VObj} (h : S.get i = some o) : S.set i o = S := by
  unfold VH.set; congr 1; funext j; by_cases e : j = i <;> simp [e, h]

theorem v_May_files {a : List File} {b : V} {i : Nat} (ha : a.length < 1000000) (hok : ∀ f ∈ a, f.ok) (hn : (a.map (·.name)).Nodup) : ∀ (d j : Nat) (l : List (List UInt8 × V)) (S : VH), j + d = a.length → i < S.next → V.clo S.next b = true → S.get i = some (.map l) → (∀ n, ∀ p ∈ l, V.clo n p.2 = true) →
    (∀ f ∈ a.drop j, mapGetV l f.name = none) → ∃ l', loopX VT.E VT.Fl (VCall VT) c_world_May_l1 ⟨[(1, b), (5, .map (some i)), (37, filesV a), (38, .int .i64 a.length), (39, .int .i64 j)], [], S⟩ = some (.exit 2, ⟨[(1, b), (5, .map (some i)), (37, filesV a), (38, .int .i64 a.length), (39, .int .i64 a.length), (40, .bool false)], [], S.set i (.map l')⟩) := by
  have hK : ∀ f w h, loopX VT.E VT.Fl (VCall VT) c_world_May_l1 ⟨f, w, h⟩ = loopX VT.E VT.Fl (VCall VT) c_world_May_l1 ⟨VFr.keep f [1, 5, 37, 38, 39], Rts.keep w.noCell [1, 5, 37, 38, 39], h⟩ := fun _ _ _ => loopX_keep
  intro d
  induction d with
  | zero =>
    intro j l S hj hi hb hg hc hl
    obtain rfl : j = a.length := by omega
    refine ⟨l, ?_⟩
    rw [loopX_eq, set_self hg]
    simp -implicitDefEqProofs [c_world_May_l1, binA]
  | succ d ih =>
    intro j l S hj hi hb hg hc hl
    have h1 : j < a.length := by omega
    have hlt : (j : Int) < (a.length : Int) := by omega
    obtain ⟨x, hx, dx⟩ := next_at h1
    obtain ⟨o1, o2, o3⟩ := hok x (List.mem_of_getElem? hx)
    have e2 : ¬ (2000 : Int) < (x.name.length : Int) := by omega
    have e3 : ¬ (16384 : Int) < (x.data.length : Int) := by omega
    have e4 : mapGetV l x.name = none := hl x (by rw [dx]; exact List.mem_cons_self)
    have hin : i ≠ S.next := by omega
    have hi1 : i < S.next + 1 := by omega
    have hclo : VObj.clo S.next (.map (mapSetV l x.name (.bool true))) = true := by
      simp only [VObj.clo, List.all_eq_true]; exact set_clo (hc _) rfl
    obtain ⟨l', this⟩ := ih (j + 1) (mapSetV l x.name (.bool true)) (S.set i (.map (mapSetV l x.name (.bool true)))) (by omega) hi hb (by simp) (fun n => set_clo (hc n) rfl) (fun f hf => by
      rw [get_set, if_neg, hl f (by rw [dx]; exact List.mem_cons_of_mem _ hf)]
      intro e
      have h2 : ((a.drop j).map (·.name)).Nodup := by rw [List.map_drop]; exact hn.sublist (List.drop_sublist _ _)
      rw [dx, List.map_cons, List.nodup_cons] at h2
      exact h2.1 (List.mem_map.2 ⟨f, hf, e⟩))
    push_cast at this
    refine ⟨l', ?_⟩
    rw [loopX_eq]
    generalize loopX VT.E VT.Fl (VCall VT) c_world_May_l1 = L at *
    simp -implicitDefEqProofs [c_world_May_l1, binA, hlt, hx, hb, o1, e2, e3, e4, hin, hi, hi1, hg, hclo, trim_in hi, wrap_succ h1 (by omega)]
    rw [hK]
    simpa using this
theorem v_May {fs : List File} {a : List Row} {S : VH} (hfl : fs.length ≤ 50) (hfo : ∀ f ∈ fs, f.ok) (hfn : (fs.map (·.name)).Nodup) (ha : a.length ≤ 50) (hok : ∀ r ∈ a, r.ok) : VCall VT F_world_May [.agg [filesV fs, rowsV a]] [] S = some (.nilI, [], S) := by
  rw [VCall_of (F := a_world_May) rfl rfl rfl rfl]
  have e0 : ¬ (50 : Int) < (fs.length : Int) := by omega
  have e1 : ¬ (50 : Int) < (a.length : Int) := by omega
  have h0 := fun (S : VH) (b : V) (hb : V.clo S.next b = true) => v_May_loop0 (S := S) hb (by omega) hok a.length 0 (by omega)
  have h2 := fun (S : VH) => v_May_loop2 (S := S) (by omega) hok a.length 0 (by omega)
  obtain ⟨l', h1⟩ := v_May_files (b := .ptr (some (S.next, 0))) (i := S.next + 1) (a := fs) (by omega) hfo hfn fs.length 0 [] ((S.push (.cells [filesV fs, rowsV a] [])).push (.map [])) (by omega) (by simp) (by simp; omega) (by simp) (fun _ p hp => by cases hp) (fun f _ => rfl)
  push_cast at h0 h2 h1
  simp -implicitDefEqProofs [a_world_May, c_world_May, binA, e0, e1, h0, h1, h2]
end Go.Proofs.YtlecbjcloleiiaaDoor.Val

/-! Where a file of a name stands. -/
set_option linter.unusedSimpArgs false
set_option linter.unusedVariables false
namespace Go.Proofs.YtlecbjcloleiiaaDoor.Val
open Go Go.Proofs.YtlecbjcloleiiaaDoor.Ram

theorem flat_take {α : Type} {e : α → List V} {sz : Nat} (he : ∀ x, (e x).length = sz) : ∀ {l : List α} {k : Nat} {x : α}, l[k]? = some x → ((l.map e).flatten.drop (k * sz)).take sz = e x
  | [], k, x, h => by simp at h
  | y :: l, 0, x, h => by
    simp at h; subst h
    simp only [List.map_cons, List.flatten_cons, Nat.zero_mul, List.drop_zero]
    rw [List.take_append_of_le_length (by rw [he]; omega), List.take_of_length_le (by rw [he]; omega)]
  | y :: l, k + 1, x, h => by
    simp at h
    have := flat_take he (l := l) h
    simp only [List.map_cons, List.flatten_cons]
    rw [show (k + 1) * sz = (e y).length + k * sz by rw [he, Nat.succ_mul]; omega, List.drop_length_add_append]
    exact this
theorem flat_len {α : Type} {e : α → List V} {sz : Nat} (he : ∀ x, (e x).length = sz) {l : List α} : (l.map e).flatten.length = l.length * sz := by
  induction l with
  | nil => simp
  | cons y l ih => simp only [List.map_cons, List.flatten_cons, List.length_append, he, ih, List.length_cons, Nat.succ_mul]; omega
theorem filesC_take {l : List File} {k : Nat} {x : File} (h : l[k]? = some x) : ((filesC l).drop (k * 2)).take 2 = fileRow x := flat_take (e := fileRow) (fun _ => rfl) h
@[simp] theorem filesC_len {l : List File} : (filesC l).length = l.length * 2 := flat_len (e := fileRow) fun _ => rfl

/-- How many stand ahead. -/
def posF (fs : List File) (n : Str) : Nat := (fs.takeWhile fun f => decide (cmpL f.name n < 0)).length
def hasF (fs : List File) (n : Str) : Bool := match fs[posF fs n]? with
  | some f => cmpL f.name n == 0
  | none => false
theorem posF_le {fs : List File} {n : Str} : posF fs n ≤ fs.length := by
  unfold posF
  exact (List.takeWhile_prefix _).length_le
theorem posF_lt {fs : List File} {n : Str} {k : Nat} (h : k < posF fs n) : ∃ f, fs[k]? = some f ∧ cmpL f.name n < 0 := by
  unfold posF at h
  have hm : (fs.takeWhile fun f => decide (cmpL f.name n < 0))[k]? = some (fs.takeWhile fun f => decide (cmpL f.name n < 0))[k] := List.getElem?_eq_getElem h
  obtain ⟨t, ht⟩ := List.takeWhile_prefix (l := fs) (fun f => decide (cmpL f.name n < 0))
  refine ⟨(fs.takeWhile fun f => decide (cmpL f.name n < 0))[k], ?_, ?_⟩
  · have := List.getElem?_append_left (l₂ := t) h
    rw [ht, hm] at this; exact this
  · have h0 : ∀ {l : List File} {f : File}, f ∈ (l.takeWhile fun f => decide (cmpL f.name n < 0)) → cmpL f.name n < 0 := by
      intro l f hf
      induction l with
      | nil => cases hf
      | cons g l ih =>
        simp only [List.takeWhile_cons] at hf
        split at hf
        · rename_i hg
          rcases List.mem_cons.1 hf with rfl | hf
          · simpa using hg
          · exact ih hf
        · cases hf
    exact h0 (List.getElem_mem h)
theorem posF_at {fs : List File} {n : Str} {f : File} (h : fs[posF fs n]? = some f) : ¬ cmpL f.name n < 0 := by
  intro hl
  unfold posF at h
  induction fs with
  | nil => simp at h
  | cons g fs ih =>
    simp only [List.takeWhile_cons] at h
    split at h
    · simp only [List.length_cons, List.getElem?_cons_succ] at h
      exact ih h
    · rename_i hg
      simp at h
      subst h
      simp at hg
      omega
/-- The names go up. -/
def Mono (fs : List File) (n : Str) : Prop := ∀ (k k' : Nat) (f f' : File), k ≤ k' → fs[k]? = some f → fs[k']? = some f' → cmpL f'.name n < 0 → cmpL f.name n < 0
theorem posF_ge {fs : List File} {n : Str} (hm : Mono fs n) {k : Nat} {f : File} (hk : posF fs n ≤ k) (hf : fs[k]? = some f) : ¬ cmpL f.name n < 0 := fun h => by
  have hlt := (List.getElem?_eq_some_iff.1 hf).1
  have hp : fs[posF fs n]? = some (fs[posF fs n]'(by omega)) := List.getElem?_eq_getElem (by omega)
  exact posF_at hp (hm _ k _ f hk hp hf h)

theorem shr_half {a : Nat} (h : a < 9223372036854775808) : IntKind.i64.wrap ((IntKind.u64.wrap (a : Int)).fdiv (2 ^ (min (Int.toNat 1) IntKind.u64.bits))) = ((a / 2 : Nat) : Int) := by
  have h1 : IntKind.u64.wrap (a : Int) = a := Go.IntWalk.u64_in _ ⟨by omega, by omega⟩
  rw [h1]
  have h2 : ((a : Int).fdiv (2 ^ (min (Int.toNat 1) IntKind.u64.bits))) = ((a / 2 : Nat) : Int) := by
    have : (2 : Int) ^ (min (Int.toNat 1) IntKind.u64.bits) = 2 := rfl
    rw [this, Int.fdiv_eq_ediv_of_nonneg _ (by decide)]
    omega
  rw [h2]
  exact i64_lt (by omega)
theorem v_bsearch_loop {fs : List File} {n data : Str} {cap : Option Nat} {i k : Nat} {own ownk : List Nat} {S : VH} (hl : fs.length < 1000000) (hm : Mono fs n) (hi : i < S.next) (hk : k < S.next) (hg : S.get i = some (.cells (filesC fs) own)) (hgk : S.get k = some (.cells [.str n, .str data] ownk)) :
    ∀ (d lo hi' : Nat), hi' - lo ≤ d → lo ≤ posF fs n → posF fs n ≤ hi' → hi' ≤ fs.length →
    loopX VT.E VT.Fl (VCall VT) c_slices_BinarySearchFunc_api_File_api_File_api_File_l0 ⟨[(0, .sl (some (i, 0)) 2 fs.length cap), (2, .fn F_world_byName []), (4, .ptr (some (k, 0))), (8, .int .i64 fs.length), (9, .int .i64 lo), (10, .int .i64 hi')], [], S⟩ =
      some (.exit 0, ⟨[(0, .sl (some (i, 0)) 2 fs.length cap), (2, .fn F_world_byName []), (4, .ptr (some (k, 0))), (8, .int .i64 fs.length), (9, .int .i64 (posF fs n)), (10, .int .i64 (posF fs n)), (17, .bool false)], [], S⟩) := by
  have hK : ∀ f w h, loopX VT.E VT.Fl (VCall VT) c_slices_BinarySearchFunc_api_File_api_File_api_File_l0 ⟨f, w, h⟩ = loopX VT.E VT.Fl (VCall VT) c_slices_BinarySearchFunc_api_File_api_File_api_File_l0 ⟨VFr.keep f [0, 2, 4, 8, 9, 10], Rts.keep w.noCell [0, 2, 4, 8, 9, 10], h⟩ := fun _ _ _ => loopX_keep
  have done : ∀ p : Nat, p = posF fs n → loopX VT.E VT.Fl (VCall VT) c_slices_BinarySearchFunc_api_File_api_File_api_File_l0 ⟨[(0, .sl (some (i, 0)) 2 fs.length cap), (2, .fn F_world_byName []), (4, .ptr (some (k, 0))), (8, .int .i64 fs.length), (9, .int .i64 p), (10, .int .i64 p)], [], S⟩ =
      some (.exit 0, ⟨[(0, .sl (some (i, 0)) 2 fs.length cap), (2, .fn F_world_byName []), (4, .ptr (some (k, 0))), (8, .int .i64 fs.length), (9, .int .i64 p), (10, .int .i64 p), (17, .bool false)], [], S⟩) := fun p _ => by
    rw [loopX_eq]
    simp -implicitDefEqProofs [c_slices_BinarySearchFunc_api_File_api_File_api_File_l0, binA]
  intro d
  induction d with
  | zero =>
    intro lo hi' h1 h2 h3 h4
    obtain rfl : lo = posF fs n := by omega
    obtain rfl : hi' = posF fs n := by omega
    exact done _ rfl
  | succ d ih =>
    intro lo hi' h1 h2 h3 h4
    by_cases e : lo = hi'
    · obtain rfl : lo = posF fs n := by omega
      obtain rfl : hi' = posF fs n := by omega
      exact done _ rfl
    · have hlt : (lo : Int) < (hi' : Int) := by omega
      have c1 : IntKind.i64.wrap ((lo : Int) + (hi' : Int)) = (lo : Int) + (hi' : Int) := by rw [← Int.natCast_add]; exact i64_lt (by omega)
      have c2 : IntKind.i64.wrap ((IntKind.u64.wrap ((lo : Int) + (hi' : Int))).fdiv (2 ^ (min 1 IntKind.u64.bits))) = (((lo + hi') / 2 : Nat) : Int) := by
        have := shr_half (a := lo + hi') (by omega)
        rw [Int.natCast_add] at this; exact this
      have hmid : (lo + hi') / 2 < fs.length := by omega
      have hmid2 : (((lo + hi') / 2 : Nat) : Int) < (fs.length : Int) := by omega
      generalize hmm : (lo + hi') / 2 = m at *
      obtain ⟨x, hx, _⟩ := next_at hmid
      have ht := filesC_take hx
      have hle : m * 2 + 2 ≤ fs.length * 2 := by omega
      have c3 : IntKind.i64.wrap ((m : Int) + 1) = ((m + 1 : Nat) : Int) := wrap_succ (n := fs.length) (by omega) (by omega)
      have ihA := ih (m + 1) hi'
      have ihB := ih lo m
      have hB := fun (S : VH) => v_byName (a := x.name) (d := x.data) (b := n) (e := data) (S := S)
      rw [loopX_eq]
      generalize loopX VT.E VT.Fl (VCall VT) c_slices_BinarySearchFunc_api_File_api_File_api_File_l0 = L at *
      by_cases hc : cmpL x.name n < 0
      · have hp : m + 1 ≤ posF fs n := by
          refine Nat.lt_of_not_le fun h => ?_
          exact posF_ge hm h hx hc
        simp -implicitDefEqProofs [c_slices_BinarySearchFunc_api_File_api_File_api_File_l0, binA, hlt, c1, c2, c3, hmid, hi, hk, hg, hgk, ht, hle, hB, hc]
        rw [hK]
        simpa using ihA (by omega) hp h3 h4
      · have hp : posF fs n ≤ m := by
          refine Nat.le_of_not_lt fun h => ?_
          obtain ⟨f, hf, hf2⟩ := posF_lt h
          rw [hx] at hf; obtain rfl := Option.some.inj hf
          exact hc hf2
        simp -implicitDefEqProofs [c_slices_BinarySearchFunc_api_File_api_File_api_File_l0, binA, hlt, c1, c2, c3, hmid, hi, hk, hg, hgk, ht, hle, hB, hc]
        rw [hK]
        simpa using ihB (by omega) h2 hp (by omega)
theorem v_bsearch {fs : List File} {n data : Str} {cap : Option Nat} {i : Nat} {own : List Nat} {S : VH} (hl : fs.length < 1000000) (hm : Mono fs n) (hi : i < S.next) (hg : S.get i = some (.cells (filesC fs) own)) :
    VCall VT F_slices_BinarySearchFunc_api_File_api_File_api_File [.sl (some (i, 0)) 2 fs.length cap, .agg [.str n, .str data], .fn F_world_byName []] [] S = some (.tup [.int .i64 (posF fs n), .bool (hasF fs n)], [], S) := by
  rw [VCall_of (F := a_slices_BinarySearchFunc_api_File_api_File_api_File) rfl rfl rfl rfl]
  have hin : i ≠ S.next := by omega
  have := v_bsearch_loop (S := S.push (.cells [.str n, .str data] [])) (i := i) (k := S.next) (ownk := []) (own := own) (cap := cap) (data := data) hl hm (by simp; omega) (by simp) (by simp [hin, hg]) (by simp) fs.length 0 fs.length (by omega) (by omega) posF_le (by omega)
  push_cast at this
  have hp := posF_le (fs := fs) (n := n)
  have hh : hasF fs n = match fs[posF fs n]? with | some f => cmpL f.name n == 0 | none => false := rfl
  by_cases e : posF fs n < fs.length
  · have e' : ((posF fs n : Nat) : Int) < (fs.length : Int) := by omega
    obtain ⟨x, hx, _⟩ := next_at e
    have ht := filesC_take hx
    have hle : posF fs n * 2 + 2 ≤ fs.length * 2 := by omega
    have hB := fun (S : VH) => v_byName (a := x.name) (d := x.data) (b := n) (e := data) (S := S)
    rw [hx] at hh
    simp only at hh
    simp -implicitDefEqProofs [a_slices_BinarySearchFunc_api_File_api_File_api_File, c_slices_BinarySearchFunc_api_File_api_File_api_File, binA, hin, hg, this, e, e', ht, hle, hB, hh]
  · have e' : ¬ ((posF fs n : Nat) : Int) < (fs.length : Int) := by omega
    rw [List.getElem?_eq_none (by omega)] at hh
    simp only at hh
    simp -implicitDefEqProofs [a_slices_BinarySearchFunc_api_File_api_File_api_File, c_slices_BinarySearchFunc_api_File_api_File_api_File, binA, hin, hg, this, e, e', hh]
end Go.Proofs.YtlecbjcloleiiaaDoor.Val

/-! The kernel's files: opened, said to. -/
set_option linter.unusedSimpArgs false
set_option linter.unusedVariables false
namespace Go.Proofs.YtlecbjcloleiiaaDoor.Val
open Go Go.Proofs.YtlecbjcloleiiaaDoor.Ram

theorem filesC_get : ∀ {l : List File} {k : Nat} {x : File}, l[k]? = some x → (filesC l)[k * 2 + 1]? = some (.str x.data)
  | [], k, x, h => by simp at h
  | y :: l, 0, x, h => by simp at h; subst h; rfl
  | y :: l, k + 1, x, h => by
    simp at h
    rw [filesC_cons, show (k + 1) * 2 + 1 = k * 2 + 1 + 1 + 1 by omega]
    simpa using filesC_get h
theorem filesC_set : ∀ {l : List File} {k : Nat} {x : File} {d : Str}, l[k]? = some x → (filesC l).take (k * 2 + 1) ++ V.str d :: (filesC l).drop (k * 2 + 1 + 1) = filesC (l.set k ⟨x.name, d⟩)
  | [], k, x, d, h => by simp at h
  | y :: l, 0, x, d, h => by simp at h; subst h; simp
  | y :: l, k + 1, x, d, h => by
    simp at h
    have := filesC_set (d := d) h
    rw [filesC_cons, show (k + 1) * 2 + 1 = k * 2 + 1 + 1 + 1 by omega]
    simpa using this
theorem set_comm {S : VH} {i j : Nat} {o o' : VObj} (h : i ≠ j) : (S.set i o).set j o' = (S.set j o').set i o := by
  unfold VH.set; congr 1; funext k
  by_cases e : k = j
  · subst e; simp [Ne.symm h]
  · simp [e]
/-- A kernel of files in the heap. -/
structure KF (S : VH) (i j : Nat) (tr : List Event) (fs : List File) (cap : Option Nat) (rows : List Row) (own : List Nat) : Prop where
  hi : i < S.next
  hj : j < S.next
  ne : i ≠ j
  own0 : 0 ∈ own
  gi : S.get i = some (.cells (encK ⟨tr, .sl (some (j, 0)) 2 fs.length cap, rows⟩) own)
  gj : S.get j = some (.cells (filesC fs) [])
section
variable {S : VH} {i j : Nat} {tr : List Event} {fs : List File} {cap : Option Nat} {rows : List Row} {own : List Nat} {n : Str}
theorem v_file (h : KF S i j tr fs cap rows own) (hl : fs.length < 1000000) (hm : Mono fs n) : VCall VT F_world_Kernel_file [.ptr (some (i, 0)), .str n] [] S = some (.tup [.int .i64 (posF fs n), .bool (hasF fs n)], [], S) := by
  have hs := v_bsearch (data := []) (cap := cap) hl hm h.hj h.gj
  have g1 := h.gi
  rw [VCall_of (F := a_world_Kernel_file) rfl rfl rfl rfl]
  by_cases ho : 1 ∈ own <;> simp -implicitDefEqProofs [a_world_Kernel_file, c_world_Kernel_file, h.hi, g1, ho, hs]
theorem v_made_old (h : KF S i j tr fs cap rows own) (hl : fs.length < 1000000) (hm : Mono fs n) (hh : hasF fs n = true) : VCall VT F_world_Kernel_made [.ptr (some (i, 0)), .str n] [] S = some (.int .i64 (posF fs n), [], S) := by
  have hs := v_file h hl hm
  rw [VCall_of (F := a_world_Kernel_made) rfl rfl rfl rfl]
  simp -implicitDefEqProofs [a_world_Kernel_made, c_world_Kernel_made, hs, hh]
/-- A file is heard. -/
theorem v_Open_hear (h : KF S i j tr fs cap rows own) (hl : fs.length < 1000000) (hm : Mono fs n) (hh : hasF fs n = true) {x : File} (hx : fs[posF fs n]? = some x) (ht : tr.length < 1000000) :
    VCall VT F_world_Kernel_Open [.ptr (some (i, 0)), .str n, .int .i64 1] [] S = some (.tup [.str x.data, .bool true], [], S.set i (.cells (encK ⟨tr ++ [⟨2, 1, n, [], []⟩], .sl (some (j, 0)) 2 fs.length cap, rows⟩) (ownN own))) := by
  have hs := v_file h hl hm
  have hN := v_note (K := ⟨tr, .sl (some (j, 0)) 2 fs.length cap, rows⟩) (k := 2) (n := 1) (a := n) (b := []) (l := []) ht h.hi h.gi h.own0 (by simp [h.hj])
  have g1 := h.gi
  have g2 := h.gj
  have hp := (List.getElem?_eq_some_iff.1 hx).1
  have hg := filesC_get hx
  simp only [strsV, List.map_nil] at hN
  rw [VCall_of (F := a_world_Kernel_Open) rfl rfl rfl rfl]
  by_cases ho : 1 ∈ own <;> simp -implicitDefEqProofs [a_world_Kernel_Open, c_world_Kernel_Open, binA, hs, hh, h.hi, h.hj, h.ne, g1, g2, ho, hp, hg, hN, trim_in h.hi]
/-- A file that is there is opened anew. -/
theorem v_Open_anew (h : KF S i j tr fs cap rows own) (hl : fs.length < 1000000) (hm : Mono fs n) (hh : hasF fs n = true) {x : File} (hx : fs[posF fs n]? = some x) (ht : tr.length < 1000000) :
    VCall VT F_world_Kernel_Open [.ptr (some (i, 0)), .str n, .int .i64 2] [] S = some (.tup [.str [], .bool true], [], (S.set j (.cells (filesC (fs.set (posF fs n) ⟨x.name, []⟩)) [])).set i (.cells (encK ⟨tr ++ [⟨2, 2, n, [], []⟩], .sl (some (j, 0)) 2 fs.length cap, rows⟩) (ownN own))) := by
  have hs := v_made_old h hl hm hh
  have hN := v_note (K := ⟨tr, .sl (some (j, 0)) 2 fs.length cap, rows⟩) (k := 2) (n := 2) (a := n) (b := []) (l := []) (S := S.set j (.cells (filesC (fs.set (posF fs n) ⟨x.name, []⟩)) [])) ht h.hi (by simp [h.ne, h.gi]) h.own0 (by simp [h.hj])
  have g1 := h.gi
  have g2 := h.gj
  have hp := (List.getElem?_eq_some_iff.1 hx).1
  have hst := filesC_set (d := []) hx
  have hle : posF fs n * 2 + 1 + 1 ≤ fs.length * 2 := by omega
  have hle' : posF fs n * 2 + 2 ≤ fs.length * 2 := by omega
  have hnn : 1 ≤ 2 := by omega
  simp only [strsV, List.map_nil] at hN
  rw [VCall_of (F := a_world_Kernel_Open) rfl rfl rfl rfl]
  by_cases ho : 1 ∈ own <;> simp -implicitDefEqProofs [a_world_Kernel_Open, c_world_Kernel_Open, binA, hs, hh, h.hi, h.hj, h.ne, g1, g2, ho, hp, hst, hle, hN, trim_in h.hi, trim_in h.hj]
theorem v_Open_add (h : KF S i j tr fs cap rows own) (hl : fs.length < 1000000) (hm : Mono fs n) (hh : hasF fs n = true) (ht : tr.length < 1000000) :
    VCall VT F_world_Kernel_Open [.ptr (some (i, 0)), .str n, .int .i64 3] [] S = some (.tup [.str [], .bool true], [], S.set i (.cells (encK ⟨tr ++ [⟨2, 3, n, [], []⟩], .sl (some (j, 0)) 2 fs.length cap, rows⟩) (ownN own))) := by
  have hs := v_made_old h hl hm hh
  have hN := v_note (K := ⟨tr, .sl (some (j, 0)) 2 fs.length cap, rows⟩) (k := 2) (n := 3) (a := n) (b := []) (l := []) (S := S) ht h.hi h.gi h.own0 (by simp [h.hj])
  have g1 := h.gi
  have g2 := h.gj
  simp only [strsV, List.map_nil] at hN
  rw [VCall_of (F := a_world_Kernel_Open) rfl rfl rfl rfl]
  simp -implicitDefEqProofs [a_world_Kernel_Open, c_world_Kernel_Open, binA, hs, hh, h.hi, h.hj, h.ne, g1, g2, hN, trim_in h.hi]
/-- Nothing is said. -/
theorem v_Write_none {p : V} : VCall VT F_world_Kernel_Write [p, .str n, .str []] [] S = some (.nilI, [], S) := by
  rw [VCall_of (F := a_world_Kernel_Write) rfl rfl rfl rfl]
  simp -implicitDefEqProofs [a_world_Kernel_Write, c_world_Kernel_Write, binA]
/-- Something is said to a file that is there. -/
theorem v_Write_old (h : KF S i j tr fs cap rows own) (hl : fs.length < 1000000) (hm : Mono fs n) (hh : hasF fs n = true) {x : File} (hx : fs[posF fs n]? = some x) (ht : tr.length < 1000000) {d : Str} (hn : n ≠ []) (hd : d ≠ []) (hsz : x.data.length + d.length ≤ 16384) :
    VCall VT F_world_Kernel_Write [.ptr (some (i, 0)), .str n, .str d] [] S = some (.nilI, [], (S.set j (.cells (filesC (fs.set (posF fs n) ⟨x.name, x.data ++ d⟩)) [])).set i (.cells (encK ⟨tr ++ [⟨3, 0, n, d, []⟩], .sl (some (j, 0)) 2 fs.length cap, rows⟩) (ownN own))) := by
  have hs := v_made_old h hl hm hh
  have hf := v_file h hl hm
  have hN := v_note (K := ⟨tr, .sl (some (j, 0)) 2 fs.length cap, rows⟩) (k := 3) (n := 0) (a := n) (b := d) (l := []) (S := S.set j (.cells (filesC (fs.set (posF fs n) ⟨x.name, x.data ++ d⟩)) [])) ht h.hi (by simp [h.ne, h.gi]) h.own0 (by simp [h.hj])
  have g1 := h.gi
  have g2 := h.gj
  have hp := (List.getElem?_eq_some_iff.1 hx).1
  have hg := filesC_get hx
  have hst := filesC_set (d := x.data ++ d) hx
  have hle : posF fs n * 2 + 1 + 1 ≤ fs.length * 2 := by omega
  have e1 : ¬ (16384 : Int) < (d.length : Int) := by omega
  have e2 : ¬ IntKind.i64.wrap (16384 - (x.data.length : Int)) < (d.length : Int) := by
    have : IntKind.i64.wrap (16384 - (x.data.length : Int)) = 16384 - (x.data.length : Int) := Go.IntWalk.i64_in _ ⟨by omega, by omega⟩
    rw [this]; omega
  have e3 : (x.data.length : Int) + (d.length : Int) ≤ 9223372036854775807 := by omega
  simp only [strsV, List.map_nil] at hN
  rw [VCall_of (F := a_world_Kernel_Write) rfl rfl rfl rfl]
  by_cases ho : 1 ∈ own <;> simp -implicitDefEqProofs [a_world_Kernel_Write, c_world_Kernel_Write, binA, hs, hf, hh, h.hi, h.hj, h.ne, g1, g2, ho, hp, hg, hst, hle, hN, hn, hd, e1, e2, e3, trim_in h.hi, trim_in h.hj]
end
end Go.Proofs.YtlecbjcloleiiaaDoor.Val

/-! A new kernel of two files that stand in order; its names. -/
set_option linter.unusedSimpArgs false
set_option linter.unusedVariables false
namespace Go.Proofs.YtlecbjcloleiiaaDoor.Val
open Go Go.Proofs.YtlecbjcloleiiaaDoor.Ram

theorem v_Names_loop {fs : List File} {i : Nat} {cap : Option Nat} {own : List Nat} {S : VH} (ha : fs.length < 1000000) (hi : i < S.next) (hg : S.get i = some (.cells (filesC fs) own)) : ∀ (d j : Nat) (out : List Str), j + d = fs.length → out.length = j →
    loopX VT.E VT.Fl (VCall VT) c_world_Kernel_Names_l0 ⟨[(3, strsV out), (9, .sl (some (i, 0)) 2 fs.length cap), (10, .int .i64 fs.length), (11, .int .i64 j)], [(3, .own)], S⟩ =
      some (.exit 0, ⟨[(3, strsV (out ++ (fs.drop j).map (·.name))), (9, .sl (some (i, 0)) 2 fs.length cap), (10, .int .i64 fs.length), (11, .int .i64 fs.length), (12, .bool false)], [(3, .own)], S⟩) := by
  have hK : ∀ f w h, loopX VT.E VT.Fl (VCall VT) c_world_Kernel_Names_l0 ⟨f, w, h⟩ = loopX VT.E VT.Fl (VCall VT) c_world_Kernel_Names_l0 ⟨VFr.keep f [3, 9, 10, 11], Rts.keep w.noCell [3, 9, 10, 11], h⟩ := fun _ _ _ => loopX_keep
  intro d
  induction d with
  | zero =>
    intro j out hj ho
    obtain rfl : j = fs.length := by omega
    rw [loopX_eq]
    simp -implicitDefEqProofs [c_world_Kernel_Names_l0, binA]
  | succ d ih =>
    intro j out hj ho
    have h1 : j < fs.length := by omega
    have hlt : (j : Int) < (fs.length : Int) := by omega
    obtain ⟨x, hx, dx⟩ := next_at h1
    have ht := filesC_take hx
    have hle : j * 2 + 2 ≤ fs.length * 2 := by omega
    have hin : i ≠ S.next := by omega
    have := ih (j + 1) (out ++ [x.name]) (by omega) (by simp [ho])
    push_cast at this
    have e2 : (out.length + 1) * 16 ≤ 140737488355328 := by omega
    rw [loopX_eq, dx]
    generalize loopX VT.E VT.Fl (VCall VT) c_world_Kernel_Names_l0 = L at *
    simp -implicitDefEqProofs [c_world_Kernel_Names_l0, binA, hlt, h1, hi, hg, ht, hle, e2, hin, wrap_succ h1 (by omega)]
    rw [hK]
    simpa [strsV] using this
section
variable {S : VH} {i j : Nat} {tr : List Event} {fs : List File} {cap : Option Nat} {rows : List Row} {own : List Nat} {n : Str}
theorem v_Names (h : KF S i j tr fs cap rows own) (hl : fs.length < 1000000) : VCall VT F_world_Kernel_Names [.ptr (some (i, 0))] [] S = some (strsV (fs.map (·.name)), [], S) := by
  have := v_Names_loop (cap := cap) hl h.hj h.gj fs.length 0 [] (by omega) rfl
  simp [strsV] at this
  have g1 := h.gi
  have hcl : V.closs S.next (fs.map (strRow ∘ fun x => x.name)) = true := closs_map fun _ => rfl
  rw [VCall_of (F := a_world_Kernel_Names) rfl rfl rfl rfl]
  by_cases ho : 1 ∈ own <;> simp -implicitDefEqProofs [a_world_Kernel_Names, c_world_Kernel_Names, h.hi, h.hj, g1, ho, this, hcl]
end
/-! two files in order -/
set_option maxRecDepth 20000 in
theorem v_Len64_2 {S : VH} : VCall VT F_math_bits_Len64 [.int .u64 2] [] S = some (.int .i64 2, [], S) := by
  rw [VCall_of (F := a_math_bits_Len64) rfl rfl rfl rfl]
  simp -implicitDefEqProofs [a_math_bits_Len64, c_math_bits_Len64, binA, chrV, show IntKind.u8.wrap 2 = 2 from rfl, show IntKind.i64.wrap 0 = 0 from rfl, show IntKind.i64.wrap 2 = 2 from rfl]
theorem v_Len_2 {S : VH} : VCall VT F_math_bits_Len [.int .u64 2] [] S = some (.int .i64 2, [], S) := by
  rw [VCall_of (F := a_math_bits_Len) rfl rfl rfl rfl]
  simp -implicitDefEqProofs [a_math_bits_Len, c_math_bits_Len, binA, v_Len64_2]
section
variable {S : VH} {j : Nat} {f1 f2 : File} {own : List Nat} {cap : Option Nat}
theorem v_insertion_2 (hj : j < S.next) (hg : S.get j = some (.cells (filesC [f1, f2]) own)) (hc : ¬ cmpL f2.name f1.name < 0) : VCall VT F_slices_insertionSortCmpFunc_api_File [.sl (some (j, 0)) 2 2 cap, .int .i64 0, .int .i64 2, .fn F_world_byName []] [] S = some (.tup [], [], S) := by
  rw [VCall_of (F := a_slices_insertionSortCmpFunc_api_File) rfl rfl rfl rfl]
  have hB := fun (S : VH) => v_byName (a := f2.name) (d := f2.data) (b := f1.name) (e := f1.data) (S := S)
  have inner : loopX VT.E VT.Fl (VCall VT) c_slices_insertionSortCmpFunc_api_File_l0 ⟨[(0, .sl (some (j, 0)) 2 2 cap), (1, .int .i64 0), (2, .int .i64 2), (3, .fn F_world_byName []), (8, .int .i64 1), (9, .int .i64 1)], [], S⟩ = some (.exit 2, ⟨[(0, .sl (some (j, 0)) 2 2 cap), (1, .int .i64 0), (2, .int .i64 2), (3, .fn F_world_byName []), (8, .int .i64 1), (9, .int .i64 1), (34, .bool false)], [], S⟩) := by
    rw [loopX_eq]
    simp -implicitDefEqProofs [c_slices_insertionSortCmpFunc_api_File_l0, binA, hj, hg, hB, hc, show IntKind.i64.wrap 0 = 0 from rfl]
  have last : loopX VT.E VT.Fl (VCall VT) c_slices_insertionSortCmpFunc_api_File_l1 ⟨[(0, .sl (some (j, 0)) 2 2 cap), (1, .int .i64 0), (2, .int .i64 2), (3, .fn F_world_byName []), (8, .int .i64 2)], [], S⟩ = some (.exit 0, ⟨[(0, .sl (some (j, 0)) 2 2 cap), (1, .int .i64 0), (2, .int .i64 2), (3, .fn F_world_byName []), (8, .int .i64 2), (14, .bool false)], [], S⟩) := by
    rw [loopX_eq]
    simp -implicitDefEqProofs [c_slices_insertionSortCmpFunc_api_File_l1, binA]
  have hK : ∀ f w h, loopX VT.E VT.Fl (VCall VT) c_slices_insertionSortCmpFunc_api_File_l1 ⟨f, w, h⟩ = loopX VT.E VT.Fl (VCall VT) c_slices_insertionSortCmpFunc_api_File_l1 ⟨VFr.keep f [0, 1, 2, 3, 8], Rts.keep w.noCell [0, 1, 2, 3, 8], h⟩ := fun _ _ _ => loopX_keep
  have first : loopX VT.E VT.Fl (VCall VT) c_slices_insertionSortCmpFunc_api_File_l1 ⟨[(0, .sl (some (j, 0)) 2 2 cap), (1, .int .i64 0), (2, .int .i64 2), (3, .fn F_world_byName []), (8, .int .i64 1)], [], S⟩ = some (.exit 0, ⟨[(0, .sl (some (j, 0)) 2 2 cap), (1, .int .i64 0), (2, .int .i64 2), (3, .fn F_world_byName []), (8, .int .i64 2), (14, .bool false)], [], S⟩) := by
    rw [loopX_eq]
    generalize loopX VT.E VT.Fl (VCall VT) c_slices_insertionSortCmpFunc_api_File_l1 = L at *
    simp -implicitDefEqProofs [c_slices_insertionSortCmpFunc_api_File_l1, binA, inner, hj, show IntKind.i64.wrap 2 = 2 from rfl]
    rw [hK]
    simpa using last
  simp -implicitDefEqProofs [a_slices_insertionSortCmpFunc_api_File, c_slices_insertionSortCmpFunc_api_File, binA, first, show IntKind.i64.wrap 1 = 1 from rfl]
theorem v_Sort_2 (hj : j < S.next) (hg : S.get j = some (.cells (filesC [f1, f2]) own)) (hc : ¬ cmpL f2.name f1.name < 0) : VCall VT F_slices_SortFunc_api_File_api_File [.sl (some (j, 0)) 2 2 cap, .fn F_world_byName []] [] S = some (.tup [], [], S) := by
  have hI := v_insertion_2 (cap := cap) hj hg hc
  have hP : VCall VT F_slices_pdqsortCmpFunc_api_File [.sl (some (j, 0)) 2 2 cap, .int .i64 0, .int .i64 2, .int .i64 2, .fn F_world_byName []] [] S = some (.tup [], [], S) := by
    rw [VCall_of (F := a_slices_pdqsortCmpFunc_api_File) rfl rfl rfl rfl]
    have : ∃ f, loopX VT.E VT.Fl (VCall VT) c_slices_pdqsortCmpFunc_api_File_l0 ⟨[(0, .sl (some (j, 0)) 2 2 cap), (1, .int .i64 0), (2, .int .i64 2), (3, .int .i64 2), (4, .fn F_world_byName []), (10, .bool true), (11, .bool true)], [], S⟩ = some (.ret, ⟨f, [], S⟩) := by
      rw [loopX_eq]
      generalize loopX VT.E VT.Fl (VCall VT) c_slices_pdqsortCmpFunc_api_File_l0 = L
      simp -implicitDefEqProofs [c_slices_pdqsortCmpFunc_api_File_l0, binA, hI, show IntKind.i64.wrap 2 = 2 from rfl]
    obtain ⟨f, this⟩ := this
    simp -implicitDefEqProofs [a_slices_pdqsortCmpFunc_api_File, c_slices_pdqsortCmpFunc_api_File, binA, this]
  rw [VCall_of (F := a_slices_SortFunc_api_File_api_File) rfl rfl rfl rfl]
  simp -implicitDefEqProofs [a_slices_SortFunc_api_File_api_File, c_slices_SortFunc_api_File_api_File, binA, v_Len_2, hP, show IntKind.u64.wrap 2 = 2 from rfl]
end
theorem v_New_2 {f1 f2 : File} {S : VH} (h1 : f1.ok) (h2 : f2.ok) (hn : f1.name ≠ f2.name) (hc : ¬ cmpL f2.name f1.name < 0) : ∃ o1, VCall VT F_world_New [.agg [filesV [f1, f2], .lst 7 []]] [] S =
    some (.tup [.ptr (some (S.next + 2, 0)), .nilI], [], ((S.push (.cells [filesV [f1, f2], .lst 7 []] o1)).push (.cells (filesC [f1, f2]) [])).push (.cells (encK ⟨[], .sl (some (S.next + 1, 0)) 2 2 none, []⟩) [0, 2])) := by
  have hM := fun (S : VH) => v_May (S := S) (fs := [f1, f2]) (a := []) (by simp) (by simp [h1, h2]) (by simp [hn]) (by simp) (by simp)
  have hC := fun (S : VH) => v_Clone_Files (v := filesV [f1, f2]) (rows := [fileRow f1, fileRow f2]) (S := S) rfl rfl (by simp) (by simp)
  have hS := fun (S : VH) (j : Nat) (hj : j < S.next) (hg : S.get j = some (.cells (filesC [f1, f2]) [])) => v_Sort_2 (cap := none) hj hg hc
  have hL : ∀ S k, loopX VT.E VT.Fl (VCall VT) c_world_New_l0 ⟨[(5, .ptr (some (k, 0))), (24, .lst 7 []), (25, .int .i64 0), (26, .int .i64 0)], [], S⟩ = some (.exit 0, ⟨[(5, .ptr (some (k, 0))), (24, .lst 7 []), (25, .int .i64 0), (26, .int .i64 0), (27, .bool false)], [], S⟩) := fun S k => by
    rw [loopX_eq]
    simp -implicitDefEqProofs [c_world_New_l0, binA]
  refine ⟨[], ?_⟩
  have e1 : ¬ S.next = S.next + 1 + 1 := by omega
  have e2 : ¬ S.next = S.next + 1 := by omega
  simp only [filesV, rowsV, List.map_cons, List.map_nil, List.flatten_cons, List.flatten_nil, List.cons_append, List.nil_append, List.append_nil, List.length_cons, List.length_nil, filesC_cons, filesC_nil] at hM hC hS ⊢
  rw [VCall_made (F := a_world_New) rfl rfl rfl rfl]
  simp -implicitDefEqProofs [a_world_New, c_world_New, binA, hM, hC, hS, hL, e1, e2]
  rfl
end Go.Proofs.YtlecbjcloleiiaaDoor.Val

/-! KernelFiles answers true. -/
set_option linter.unusedSimpArgs false
set_option linter.unusedVariables false
namespace Go.Proofs.YtlecbjcloleiiaaDoor.Val
open Go Go.Proofs.YtlecbjcloleiiaaDoor.Ram

structure Do where
  kind : Int
  n : Int
  m : Int
  s : Str
  t : Str
  l : List Str
abbrev doRow (d : Do) : List V := [.int .i64 d.kind, .int .i64 d.n, .int .i64 d.m, .str d.s, .str d.t, strsV d.l]
abbrev dosV (l : List Do) : V := .lst 6 (l.map doRow)
@[simp] theorem clo_dos {n : Nat} {l : List Do} : V.closs n (l.map doRow) = true := closs_map fun _ => by simp

def andI (a b : Int) : Int := IntKind.i64.wrap (BitVec.ofInt IntKind.i64.bits a &&& BitVec.ofInt IntKind.i64.bits b).toNat
@[simp 1100] theorem bin_and {a b : Int} : binV .and (.int .i64 a) (.int .i64 b) = some (.int .i64 (andI a b)) := rfl
theorem and_one (a : Int) : andI a 1 = 0 ∨ andI a 1 = 1 := by
  unfold andI
  have h : (BitVec.ofInt IntKind.i64.bits a &&& BitVec.ofInt IntKind.i64.bits 1).toNat = (BitVec.ofInt IntKind.i64.bits a).toNat % 2 := by
    rw [BitVec.toNat_and, show (BitVec.ofInt IntKind.i64.bits 1).toNat = 1 from rfl, Nat.and_one_is_mod]
  rw [h]
  rcases Nat.mod_two_eq_zero_or_one (BitVec.ofInt IntKind.i64.bits a).toNat with e | e <;> rw [e]
  · exact .inl rfl
  · exact .inr rfl
/-- What was there is as it was. -/
theorem trim_eq {S S1 : VH} (h : ∀ q, q < S.next → S1.get q = S.get q) : VH.trim S S1 = S := by
  unfold VH.trim
  congr 1
  funext q
  split
  · rename_i e; exact h q e
  · rfl
theorem cloH_eq {S S1 : VH} (h : ∀ q, q < S.next → S1.get q = S.get q) : cloH S S1 := fun q hq => .inl (h q hq)

abbrev nA : Str := [97]
abbrev nB : Str := [98]
abbrev two (w d : Str) : List File := [⟨nA, w⟩, ⟨nB, d⟩]
theorem cAA : cmpL nA nA = 0 := by decide
theorem cBA : cmpL nB nA = 1 := by decide
theorem cAB : cmpL nA nB = -1 := by decide
theorem cBB : cmpL nB nB = 0 := by decide
theorem two_get {w d : Str} {k : Nat} {f : File} (h : (two w d)[k]? = some f) : (k = 0 ∧ f = ⟨nA, w⟩) ∨ (k = 1 ∧ f = ⟨nB, d⟩) := by
  match k with
  | 0 => simp at h; exact .inl ⟨rfl, h.symm⟩
  | 1 => simp at h; exact .inr ⟨rfl, h.symm⟩
  | k + 2 => simp at h
theorem mono_A {w d : Str} : Mono (two w d) nA := fun k k' f f' hk h1 h2 h3 => by
  rcases two_get h2 with ⟨_, rfl⟩ | ⟨_, rfl⟩
  · rw [cAA] at h3; omega
  · rw [cBA] at h3; omega
theorem mono_B {w d : Str} : Mono (two w d) nB := fun k k' f f' hk h1 h2 h3 => by
  rcases two_get h2 with ⟨rfl, rfl⟩ | ⟨_, rfl⟩
  · rcases two_get h1 with ⟨_, rfl⟩ | ⟨rfl, _⟩
    · exact h3
    · omega
  · rw [cBB] at h3; omega
theorem pos_A {w d : Str} : posF (two w d) nA = 0 := by simp [posF, cAA]
theorem pos_B {w d : Str} : posF (two w d) nB = 1 := by simp [posF, cAB, cBB]
theorem has_A {w d : Str} : hasF (two w d) nA = true := by simp [hasF, pos_A, cAA]
theorem has_B {w d : Str} : hasF (two w d) nB = true := by simp [hasF, pos_B, cBB]
/-- The kernel ahead of a round. -/
structure St (S0 : VH) (i j : Nat) (w d : Str) (n : Nat) (S : VH) : Prop where
  next : S.next = S0.next
  frm : ∀ q, q ≠ i → q ≠ j → S.get q = S0.get q
  kf : ∃ tr own, KF S i j tr (two w d) none [] own ∧ tr.length ≤ n
theorem St.step {S0 : VH} {i j n : Nat} {w d w' : Str} {S : VH} (h : St S0 i j w d n S) {tr : List Event} {e : Event} {own : List Nat} (hk : KF S i j tr (two w d) none [] own) (ht : tr.length ≤ n) :
    St S0 i j w' d (n + 1) ((S.set j (.cells (filesC (two w' d)) [])).set i (.cells (encK ⟨tr ++ [e], .sl (some (j, 0)) 2 2 none, []⟩) (ownN own))) := by
  refine ⟨h.next, fun q h1 h2 => ?_, tr ++ [e], ownN own, ⟨hk.hi, hk.hj, hk.ne, mem_ownN, by simp, by simp [Ne.symm hk.ne]⟩, by simp; omega⟩
  rw [set_get, if_neg h1, set_get, if_neg h2]; exact h.frm q h1 h2
theorem St.step0 {S0 : VH} {i j n : Nat} {w d : Str} {S : VH} (h : St S0 i j w d n S) {tr : List Event} {e : Event} {own : List Nat} (hk : KF S i j tr (two w d) none [] own) (ht : tr.length ≤ n) :
    St S0 i j w d (n + 1) (S.set i (.cells (encK ⟨tr ++ [e], .sl (some (j, 0)) 2 2 none, []⟩) (ownN own))) := by
  refine ⟨h.next, fun q h1 h2 => ?_, tr ++ [e], ownN own, ⟨hk.hi, hk.hj, hk.ne, mem_ownN, by simp, by simp [Ne.symm hk.ne, hk.gj]⟩, by simp; omega⟩
  rw [set_get, if_neg h1]; exact h.frm q h1 h2
section
variable {S0 S : VH} {i j n : Nat} {w d : Str}
theorem St.anew (h : St S0 i j w d n S) (hn : n < 1000) : ∃ S', St S0 i j [] d (n + 1) S' ∧ VCall VT F_world_Kernel_Open [.ptr (some (i, 0)), .str nA, .int .i64 2] [] S = some (.tup [.str [], .bool true], [], S') := by
  obtain ⟨tr, own, hk, ht⟩ := h.kf
  exact ⟨_, h.step (w' := []) hk ht, (v_Open_anew hk (by simp) mono_A has_A (x := ⟨nA, w⟩) (by rw [pos_A]; rfl) (by omega)).trans (by rw [pos_A]; rfl)⟩
theorem St.add (h : St S0 i j w d n S) (hn : n < 1000) : ∃ S', St S0 i j w d (n + 1) S' ∧ VCall VT F_world_Kernel_Open [.ptr (some (i, 0)), .str nA, .int .i64 3] [] S = some (.tup [.str [], .bool true], [], S') := by
  obtain ⟨tr, own, hk, ht⟩ := h.kf
  exact ⟨_, h.step0 hk ht, v_Open_add hk (by simp) mono_A has_A (by omega)⟩
theorem St.hearA (h : St S0 i j w d n S) (hn : n < 1000) : ∃ S', St S0 i j w d (n + 1) S' ∧ VCall VT F_world_Kernel_Open [.ptr (some (i, 0)), .str nA, .int .i64 1] [] S = some (.tup [.str w, .bool true], [], S') := by
  obtain ⟨tr, own, hk, ht⟩ := h.kf
  exact ⟨_, h.step0 hk ht, v_Open_hear hk (by simp) mono_A has_A (x := ⟨nA, w⟩) (by rw [pos_A]; rfl) (by omega)⟩
theorem St.hearB (h : St S0 i j w d n S) (hn : n < 1000) : ∃ S', St S0 i j w d (n + 1) S' ∧ VCall VT F_world_Kernel_Open [.ptr (some (i, 0)), .str nB, .int .i64 1] [] S = some (.tup [.str d, .bool true], [], S') := by
  obtain ⟨tr, own, hk, ht⟩ := h.kf
  exact ⟨_, h.step0 hk ht, v_Open_hear hk (by simp) mono_B has_B (x := ⟨nB, d⟩) (by rw [pos_B]; rfl) (by omega)⟩
theorem St.write (h : St S0 i j w d n S) (hn : n < 1000) {t : Str} (hsz : w.length + t.length ≤ 16384) : ∃ S', St S0 i j (w ++ t) d (n + 1) S' ∧ VCall VT F_world_Kernel_Write [.ptr (some (i, 0)), .str nA, .str t] [] S = some (.nilI, [], S') := by
  obtain ⟨tr, own, hk, ht⟩ := h.kf
  by_cases e : t = []
  · subst e
    exact ⟨S, ⟨h.next, h.frm, tr, own, by rw [List.append_nil]; exact hk, by omega⟩, v_Write_none⟩
  · exact ⟨_, h.step (w' := w ++ t) hk ht, (v_Write_old hk (by simp) mono_A has_A (x := ⟨nA, w⟩) (by rw [pos_A]; rfl) (by omega) (by simp) e hsz).trans (by rw [pos_A]; rfl)⟩
theorem St.names (h : St S0 i j w d n S) : VCall VT F_world_Kernel_Names [.ptr (some (i, 0))] [] S = some (strsV [nA, nB], [], S) := by
  obtain ⟨tr, own, hk, ht⟩ := h.kf
  exact v_Names hk (by simp)
end
theorem v_Files_loop {l : List Do} {data : Str} {S0 : VH} {i j : Nat} (hi : i < S0.next) (hij : i ≠ j) (hl : l.length ≤ 40) : ∀ (d k : Nat) (w : Str) (S : VH), k + d = l.length → St S0 i j w data k S → w.length ≤ 1000 + 300 * k →
    (∃ w' S', St S0 i j w' data l.length S' ∧ loopX VT.E VT.Fl (VCall VT) c_patoislaw4_KernelFiles_l0 ⟨[(0, dosV l), (1, .str data), (6, .ptr (some (i, 0))), (8, .str w), (9, .int .i64 k)], [], S⟩ =
      some (.exit 0, ⟨[(0, dosV l), (1, .str data), (6, .ptr (some (i, 0))), (8, .str w'), (9, .int .i64 l.length), (51, .bool false)], [], S'⟩)) ∨
    (∃ w' n' S', St S0 i j w' data n' S' ∧ ∃ f, loopX VT.E VT.Fl (VCall VT) c_patoislaw4_KernelFiles_l0 ⟨[(0, dosV l), (1, .str data), (6, .ptr (some (i, 0))), (8, .str w), (9, .int .i64 k)], [], S⟩ = some (.ret, ⟨(4, .bool true) :: f, [], S'⟩)) := by
  have hK : ∀ f w h, loopX VT.E VT.Fl (VCall VT) c_patoislaw4_KernelFiles_l0 ⟨f, w, h⟩ = loopX VT.E VT.Fl (VCall VT) c_patoislaw4_KernelFiles_l0 ⟨VFr.keep f [0, 1, 6, 8, 9], Rts.keep w.noCell [0, 1, 6, 8, 9], h⟩ := fun _ _ _ => loopX_keep
  have hcl : ∀ {w : Str} {n : Nat} {S S1 : VH}, St S0 i j w data n S → ∀ {w1 : Str} {n1 : Nat}, St S0 i j w1 data n1 S1 → cloH S S1 ∧ VH.trim S S1 = S1 := fun {w n S S1} h {w1 n1} h1 => by
    obtain ⟨tr, own, k1, _⟩ := h1.kf
    have hnx : S.next = S1.next := h.next.trans h1.next.symm
    refine ⟨fun q hq => ?_, ?_⟩
    · by_cases e1 : q = i
      · subst e1; right; intro o ho; rw [k1.gi] at ho; obtain rfl := Option.some.inj ho
        have := k1.hj
        simp [hnx, this]
      · by_cases e2 : q = j
        · subst e2; right; intro o ho; rw [k1.gj] at ho; obtain rfl := Option.some.inj ho; simp
        · left; rw [h1.frm q e1 e2, h.frm q e1 e2]
    · unfold VH.trim
      have : ∀ q, ¬ q < S.next → S.get q = S1.get q := fun q hq => by
        have h2 := k1.hi; have h3 := k1.hj
        rw [h.frm q (by omega) (by omega), h1.frm q (by omega) (by omega)]
      obtain ⟨nx, g⟩ := S1
      simp only at hnx this ⊢
      rw [hnx]
      congr 1
      funext q
      split
      · rfl
      · rename_i e; exact this q (by rw [hnx]; exact e)
  intro d
  induction d with
  | zero =>
    intro k w S hk hs hw
    obtain rfl : k = l.length := by omega
    left
    refine ⟨w, S, hs, ?_⟩
    rw [loopX_eq]
    simp -implicitDefEqProofs [c_patoislaw4_KernelFiles_l0, binA]
  | succ d ih =>
    intro k w S hk hs hw
    have h1 : k < l.length := by omega
    have hlt : (k : Int) < (l.length : Int) := by omega
    obtain ⟨x, hx, dx⟩ := next_at h1
    have hiS : i < S.next := by rw [hs.next]; exact hi
    by_cases e1 : 300 < x.t.length
    · right
      have e1' : (300 : Int) < (x.t.length : Int) := by omega
      refine ⟨w, k, S, hs, ?_⟩
      rw [loopX_eq]
      generalize loopX VT.E VT.Fl (VCall VT) c_patoislaw4_KernelFiles_l0 = L at *
      simp -implicitDefEqProofs [c_patoislaw4_KernelFiles_l0, binA, hlt, hx, e1']
    have e1' : ¬ (300 : Int) < (x.t.length : Int) := by omega
    suffices key : ∃ w1 S1, St S0 i j w1 data (k + 1) S1 ∧ w1.length ≤ 1000 + 300 * (k + 1) ∧ loopX VT.E VT.Fl (VCall VT) c_patoislaw4_KernelFiles_l0 ⟨[(0, dosV l), (1, .str data), (6, .ptr (some (i, 0))), (8, .str w), (9, .int .i64 k)], [], S⟩ =
        loopX VT.E VT.Fl (VCall VT) c_patoislaw4_KernelFiles_l0 ⟨[(0, dosV l), (1, .str data), (6, .ptr (some (i, 0))), (8, .str w1), (9, .int .i64 ((k : Int) + 1))], [], S1⟩ from by
      obtain ⟨w1, S1, hs1, hw1, e⟩ := key
      have := ih (k + 1) w1 S1 (by omega) hs1 hw1
      push_cast at this
      rw [e]; exact this
    by_cases e2 : x.kind = 2
    · rcases and_one x.n with e3 | e3
      · obtain ⟨S1, hs1, hc⟩ := hs.anew (by omega)
        obtain ⟨c1, c2⟩ := hcl hs hs1
        refine ⟨_, S1, hs1, by simp, ?_⟩
        rw [loopX_eq]
        generalize loopX VT.E VT.Fl (VCall VT) c_patoislaw4_KernelFiles_l0 = L at *
        simp -implicitDefEqProofs [c_patoislaw4_KernelFiles_l0, binA, hlt, hx, e1', e2, e3, hc, c1, c2, hiS, show IntKind.i64.wrap 2 = 2 from rfl, wrap_succ h1 (by omega)]
        conv => lhs; rw [hK]
        simp
      · obtain ⟨S1, hs1, hc⟩ := hs.add (by omega)
        obtain ⟨c1, c2⟩ := hcl hs hs1
        refine ⟨_, S1, hs1, by omega, ?_⟩
        rw [loopX_eq]
        generalize loopX VT.E VT.Fl (VCall VT) c_patoislaw4_KernelFiles_l0 = L at *
        simp -implicitDefEqProofs [c_patoislaw4_KernelFiles_l0, binA, hlt, hx, e1', e2, e3, hc, c1, c2, hiS, show IntKind.i64.wrap 3 = 3 from rfl, wrap_succ h1 (by omega)]
        conv => lhs; rw [hK]
        simp
    · obtain ⟨S1, hs1, hc⟩ := hs.write (t := x.t) (by omega) (by omega)
      obtain ⟨c1, c2⟩ := hcl hs hs1
      have e4 : (w.length : Int) + (x.t.length : Int) ≤ 9223372036854775807 := by omega
      refine ⟨_, S1, hs1, by simp; omega, ?_⟩
      rw [loopX_eq]
      generalize loopX VT.E VT.Fl (VCall VT) c_patoislaw4_KernelFiles_l0 = L at *
      simp -implicitDefEqProofs [c_patoislaw4_KernelFiles_l0, binA, hlt, hx, e1', e2, e4, hc, c1, c2, hiS, wrap_succ h1 (by omega)]
      conv => lhs; rw [hK]
      simp
theorem v_Files {l : List Do} {data : Str} {S : VH} : VCall VT F_patoislaw4_KernelFiles [dosV l, .str data] [] S = some (.bool true, [], S) := by
  rw [VCall_of (F := a_patoislaw4_KernelFiles) rfl rfl rfl rfl]
  by_cases h1 : l.length ≤ 40
  rotate_left
  · have h1' : (40 : Int) < (l.length : Int) := by omega
    simp -implicitDefEqProofs [a_patoislaw4_KernelFiles, c_patoislaw4_KernelFiles, binA, v_first, h1']
  have h1' : ¬ (40 : Int) < (l.length : Int) := by omega
  by_cases h2 : data.length ≤ 1000
  rotate_left
  · have h2' : (1000 : Int) < (data.length : Int) := by omega
    simp -implicitDefEqProofs [a_patoislaw4_KernelFiles, c_patoislaw4_KernelFiles, binA, v_first, h1', h2']
  have h2' : ¬ (1000 : Int) < (data.length : Int) := by omega
  obtain ⟨o1, hN⟩ := v_New_2 (f1 := ⟨nA, data⟩) (f2 := ⟨nB, data⟩) (S := S) ⟨by simp, by simp, by simp; omega⟩ ⟨by simp, by simp, by simp; omega⟩ (by simp) (by rw [cBA]; omega)
  generalize hS1 : ((S.push (.cells [filesV [⟨nA, data⟩, ⟨nB, data⟩], .lst 7 []] o1)).push (.cells (filesC [⟨nA, data⟩, ⟨nB, data⟩]) [])).push (.cells (encK ⟨[], .sl (some (S.next + 1, 0)) 2 2 none, []⟩) [0, 2]) = S1 at hN
  have hn1 : S1.next = S.next + 3 := by subst hS1; rfl
  have hst : St S1 (S.next + 2) (S.next + 1) data data 0 S1 := ⟨rfl, fun _ _ _ => rfl, [], [0, 2], ⟨by omega, by omega, by omega, by simp, by subst hS1; simp, by subst hS1; simp⟩, by simp⟩
  have hfr : ∀ q, q < S.next → S1.get q = S.get q := fun q hq => by
    subst hS1
    have e1 : ¬ q = S.next + 1 + 1 := by omega
    have e2 : ¬ q = S.next + 1 := by omega
    have e3 : ¬ q = S.next := by omega
    simp [e1, e2, e3]
  have back : ∀ {w : Str} {n : Nat} {S2 : VH}, St S1 (S.next + 2) (S.next + 1) w data n S2 → cloH S S2 ∧ VH.trim S S2 = S := fun {w n S2} h => by
    have : ∀ q, q < S.next → S2.get q = S.get q := fun q hq => (h.frm q (by omega) (by omega)).trans (hfr q hq)
    exact ⟨cloH_eq this, trim_eq this⟩
  simp only [filesV, List.map_cons, List.map_nil, fileRow] at hN
  rcases v_Files_loop (l := l) (by omega) (by omega) h1 l.length 0 data S1 (by omega) hst (by omega) with ⟨w', S2, hs2, hL⟩ | ⟨w', n', S2, hs2, f, hL⟩
  · push_cast at hL
    obtain ⟨S3, hs3, hA⟩ := hs2.hearA (by omega)
    obtain ⟨S4, hs4, hB⟩ := hs3.hearB (by omega)
    have hNm := hs4.names
    obtain ⟨b1, b2⟩ := back hs4
    simp -implicitDefEqProofs [a_patoislaw4_KernelFiles, c_patoislaw4_KernelFiles, binA, v_first, h1', h2', hN, hL, hA, hB, hNm, b1, b2]
  · push_cast at hL
    obtain ⟨b1, b2⟩ := back hs2
    simp -implicitDefEqProofs [a_patoislaw4_KernelFiles, c_patoislaw4_KernelFiles, binA, v_first, h1', h2', hN, hL, b1, b2]
end Go.Proofs.YtlecbjcloleiiaaDoor.Val

/-! Events: the same, beginnings, what is erased. -/
set_option linter.unusedSimpArgs false
set_option linter.unusedVariables false
namespace Go.Proofs.YtlecbjcloleiiaaDoor.Val
open Go Go.Proofs.YtlecbjcloleiiaaDoor.Ram

abbrev EvOk (l : List Event) : Prop := ∀ e ∈ l, e.l.length < 1000000
theorem v_same {e f : Event} {S : VH} (h : e.l.length < 1000000) : VCall VT F_world_same [.agg (encEv e), .agg (encEv f)] [] S = some (.bool (decide (e = f)), [], S) := by
  have hE := fun (S : VH) => v_Equal (a := e.l) (b := f.l) (S := S) h
  rw [VCall_of (F := a_world_same) rfl rfl rfl rfl]
  obtain ⟨k, n, a, b, l⟩ := e
  obtain ⟨k', n', a', b', l'⟩ := f
  have hd : decide (Event.mk k n a b l = Event.mk k' n' a' b' l') = (decide (k = k') && (decide (n = n') && (decide (a = a') && (decide (b = b') && decide (l = l'))))) := by
    simp only [Event.mk.injEq, Bool.decide_and]
  simp only at hE
  rw [hd]
  by_cases e1 : k = k' <;> by_cases e2 : n = n' <;> by_cases e3 : a = a' <;> by_cases e4 : b = b' <;> simp -implicitDefEqProofs [a_world_same, c_world_same, binA, e1, e2, e3, e4, hE]
theorem v_SameEvent {e f : Event} {S : VH} (h : e.l.length < 1000000) : VCall VT F_patoisref_SameEvent [.agg (encEv e), .agg (encEv f)] [] S = some (.bool (decide (e = f)), [], S) := by
  have hE := fun (S : VH) => v_SameTexts (a := e.l) (b := f.l) (S := S) h
  rw [VCall_of (F := a_patoisref_SameEvent) rfl rfl rfl rfl]
  obtain ⟨k, n, a, b, l⟩ := e
  obtain ⟨k', n', a', b', l'⟩ := f
  have hd : decide (Event.mk k n a b l = Event.mk k' n' a' b' l') = (decide (k = k') && (decide (n = n') && (decide (a = a') && (decide (b = b') && decide (l = l'))))) := by
    simp only [Event.mk.injEq, Bool.decide_and]
  simp only at hE
  rw [hd]
  by_cases e1 : k = k' <;> by_cases e2 : n = n' <;> by_cases e3 : a = a' <;> by_cases e4 : b = b' <;> simp -implicitDefEqProofs [a_patoisref_SameEvent, c_patoisref_SameEvent, binA, e1, e2, e3, e4, hE]
theorem v_EqualFunc_loop {a b : List Event} {S : VH} (hl : a.length = b.length) (ha : a.length < 1000000) (hok : EvOk a) : ∀ (d j : Nat), j + d = a.length →
    (a.drop j = b.drop j ∧ loopX VT.E VT.Fl (VCall VT) c_slices_EqualFunc_api_Event_api_Event_api_Event_api_Event_l0 ⟨[(1, evsV' b), (2, .fn F_world_same []), (15, evsV' a), (16, .int .i64 a.length), (17, .int .i64 j)], [], S⟩ = some (.exit 0, ⟨[(1, evsV' b), (2, .fn F_world_same []), (15, evsV' a), (16, .int .i64 a.length), (17, .int .i64 a.length), (18, .bool false)], [], S⟩)) ∨
    (a.drop j ≠ b.drop j ∧ ∃ f S', Fresh S S' ∧ loopX VT.E VT.Fl (VCall VT) c_slices_EqualFunc_api_Event_api_Event_api_Event_api_Event_l0 ⟨[(1, evsV' b), (2, .fn F_world_same []), (15, evsV' a), (16, .int .i64 a.length), (17, .int .i64 j)], [], S⟩ = some (.ret, ⟨(6, .bool false) :: f, [], S'⟩)) := by
  have hK : ∀ f w h, loopX VT.E VT.Fl (VCall VT) c_slices_EqualFunc_api_Event_api_Event_api_Event_api_Event_l0 ⟨f, w, h⟩ = loopX VT.E VT.Fl (VCall VT) c_slices_EqualFunc_api_Event_api_Event_api_Event_api_Event_l0 ⟨VFr.keep f [1, 2, 15, 16, 17], Rts.keep w.noCell [1, 2, 15, 16, 17], h⟩ := fun _ _ _ => loopX_keep
  intro d
  induction d with
  | zero =>
    intro j hj
    obtain rfl : j = a.length := by omega
    left
    rw [loopX_eq]
    simp -implicitDefEqProofs [c_slices_EqualFunc_api_Event_api_Event_api_Event_api_Event_l0, binA, hl]
  | succ d ih =>
    intro j hj
    have h1 : j < a.length := by omega
    have h2 : j < b.length := by omega
    have hlt : (j : Int) < (a.length : Int) := by omega
    obtain ⟨x, hx, dx⟩ := next_at h1
    obtain ⟨y, hy, dy⟩ := next_at h2
    have hE := fun (S : VH) => v_same (e := x) (f := y) (S := S) (hok x (List.mem_of_getElem? hx))
    have c1 : ¬ (S.next + 1 = S.next) := by omega
    have c2 : ¬ (S.next = S.next + 1) := by omega
    rw [loopX_eq, dx, dy]
    have := ih (j + 1) (by omega)
    push_cast at this
    generalize loopX VT.E VT.Fl (VCall VT) c_slices_EqualFunc_api_Event_api_Event_api_Event_api_Event_l0 = L at *
    by_cases e : x = y
    · subst e
      simp -implicitDefEqProofs [c_slices_EqualFunc_api_Event_api_Event_api_Event_api_Event_l0, binA, hlt, hx, hy, hE, c1, c2, wrap_succ h1 (by omega)]
      rw [hK]
      simpa using this
    · right
      refine ⟨fun h => e (by injection h), ?_⟩
      simp -implicitDefEqProofs [c_slices_EqualFunc_api_Event_api_Event_api_Event_api_Event_l0, binA, hlt, hx, hy, hE, e, c1, c2]
      have hF : ∀ o o', Fresh S ((S.push o).push o') := fun o o' => ⟨by simp; omega, fun q hq => by
        have e1 : ¬ q = S.next + 1 := by omega
        have e2 : ¬ q = S.next := by omega
        simp [e1, e2]⟩
      first | exact ⟨_, hF _ _, rfl⟩ | exact ⟨_, _, hF _ _, rfl⟩ | exact ⟨_, _, hF _ _, rfl, rfl⟩ | exact hF _ _
theorem v_EvSame {a b : List Event} {S : VH} (ha : a.length < 1000000) (hok : EvOk a) : VCall VT F_world_SameEvents [evsV' a, evsV' b] [] S = some (.bool (decide (a = b)), [], S) := by
  have key : VCall VT F_slices_EqualFunc_api_Event_api_Event_api_Event_api_Event [evsV' a, evsV' b, .fn F_world_same []] [] S = some (.bool (decide (a = b)), [], S) := by
    rw [VCall_of (F := a_slices_EqualFunc_api_Event_api_Event_api_Event_api_Event) rfl rfl rfl rfl]
    by_cases hl : a.length = b.length
    · have := v_EqualFunc_loop (S := S) hl ha hok a.length 0 (by omega)
      push_cast at this
      rcases this with ⟨e, this⟩ | ⟨e, f, S', hF, this⟩
      · simp -implicitDefEqProofs [a_slices_EqualFunc_api_Event_api_Event_api_Event_api_Event, c_slices_EqualFunc_api_Event_api_Event_api_Event_api_Event, binA, hl] at this ⊢
        simp -implicitDefEqProofs [this]
        simpa using e
      · have k1 := hF.clo
        have k2 := hF.trim
        simp -implicitDefEqProofs [a_slices_EqualFunc_api_Event_api_Event_api_Event_api_Event, c_slices_EqualFunc_api_Event_api_Event_api_Event_api_Event, binA, hl] at this ⊢
        simp -implicitDefEqProofs [this, k1, k2]
        simpa using e
    · have e : a ≠ b := fun h => hl (by rw [h])
      have hl' : ¬ ((a.length : Int) = (b.length : Int)) := by omega
      simp -implicitDefEqProofs [a_slices_EqualFunc_api_Event_api_Event_api_Event_api_Event, c_slices_EqualFunc_api_Event_api_Event_api_Event_api_Event, binA, e, hl']
  rw [VCall_of (F := a_world_SameEvents) rfl rfl rfl rfl]
  simp -implicitDefEqProofs [a_world_SameEvents, c_world_SameEvents, key]
theorem v_RefSame_loop {a b : List Event} {S : VH} (hl : a.length = b.length) (ha : a.length < 1000000) (hok : EvOk a) : ∀ (d j : Nat), j + d = a.length →
    (a.drop j = b.drop j ∧ loopX VT.E VT.Fl (VCall VT) c_patoisref_SameEvents_l0 ⟨[(0, evsV' a), (1, evsV' b), (5, .int .i64 j)], [], S⟩ = some (.exit 0, ⟨[(0, evsV' a), (1, evsV' b), (5, .int .i64 a.length), (15, .bool false)], [], S⟩)) ∨
    (a.drop j ≠ b.drop j ∧ ∃ f, loopX VT.E VT.Fl (VCall VT) c_patoisref_SameEvents_l0 ⟨[(0, evsV' a), (1, evsV' b), (5, .int .i64 j)], [], S⟩ = some (.ret, ⟨(4, .bool false) :: f, [], S⟩)) := by
  have hK : ∀ f w h, loopX VT.E VT.Fl (VCall VT) c_patoisref_SameEvents_l0 ⟨f, w, h⟩ = loopX VT.E VT.Fl (VCall VT) c_patoisref_SameEvents_l0 ⟨VFr.keep f [0, 1, 5], Rts.keep w.noCell [0, 1, 5], h⟩ := fun _ _ _ => loopX_keep
  intro d
  induction d with
  | zero =>
    intro j hj
    obtain rfl : j = a.length := by omega
    left
    rw [loopX_eq]
    simp -implicitDefEqProofs [c_patoisref_SameEvents_l0, binA, hl]
  | succ d ih =>
    intro j hj
    have h1 : j < a.length := by omega
    have h2 : j < b.length := by omega
    have hlt : (j : Int) < (a.length : Int) := by omega
    obtain ⟨x, hx, dx⟩ := next_at h1
    obtain ⟨y, hy, dy⟩ := next_at h2
    have hE := fun (S : VH) => v_SameEvent (e := x) (f := y) (S := S) (hok x (List.mem_of_getElem? hx))
    rw [loopX_eq, dx, dy]
    have := ih (j + 1) (by omega)
    push_cast at this
    generalize loopX VT.E VT.Fl (VCall VT) c_patoisref_SameEvents_l0 = L at *
    by_cases e : x = y
    · subst e
      simp -implicitDefEqProofs [c_patoisref_SameEvents_l0, binA, hlt, hx, hy, hE, wrap_succ h1 (by omega)]
      rw [hK]
      simpa using this
    · simp -implicitDefEqProofs [c_patoisref_SameEvents_l0, binA, hlt, hx, hy, hE, e]
theorem v_RefSame {a b : List Event} {S : VH} (ha : a.length < 1000000) (hok : EvOk a) : VCall VT F_patoisref_SameEvents [evsV' a, evsV' b] [] S = some (.bool (decide (a = b)), [], S) := by
  rw [VCall_of (F := a_patoisref_SameEvents) rfl rfl rfl rfl]
  by_cases hl : a.length = b.length
  · have := v_RefSame_loop (S := S) hl ha hok a.length 0 (by omega)
    push_cast at this
    rcases this with ⟨e, this⟩ | ⟨e, f, this⟩
    · simp -implicitDefEqProofs [a_patoisref_SameEvents, c_patoisref_SameEvents, binA, hl] at this ⊢
      simp -implicitDefEqProofs [this]
      simpa using e
    · simp -implicitDefEqProofs [a_patoisref_SameEvents, c_patoisref_SameEvents, binA, hl] at this ⊢
      simp -implicitDefEqProofs [this]
      simpa using e
  · have e : a ≠ b := fun h => hl (by rw [h])
    have hl' : ¬ ((a.length : Int) = (b.length : Int)) := by omega
    simp -implicitDefEqProofs [a_patoisref_SameEvents, c_patoisref_SameEvents, binA, e, hl']
def begins (a b : List Event) : Bool := decide (a.length ≤ b.length) && decide (a = b.take a.length)
theorem v_Begins {a b : List Event} {S : VH} (ha : a.length < 1000000) (hok : EvOk a) : VCall VT F_world_Begins [evsV' a, evsV' b] [] S = some (.bool (begins a b), [], S) := by
  have h := fun (S : VH) => v_EvSame (a := a) (b := b.take a.length) (S := S) ha hok
  simp only [evsV', List.map_take] at h
  rw [VCall_of (F := a_world_Begins) rfl rfl rfl rfl]
  unfold begins
  by_cases e : a.length ≤ b.length
  · have e' : (a.length : Int) ≤ (b.length : Int) := by omega
    simp -implicitDefEqProofs [a_world_Begins, c_world_Begins, binA, slcV, bndV, natV, e, e', h]
  · have e' : ¬ (a.length : Int) ≤ (b.length : Int) := by omega
    simp -implicitDefEqProofs [a_world_Begins, c_world_Begins, binA, e, e']
theorem v_RefBegins {a b : List Event} {S : VH} (ha : a.length < 1000000) (hok : EvOk a) : VCall VT F_patoisref4_Begins [evsV' a, evsV' b] [] S = some (.bool (begins a b), [], S) := by
  have h := fun (S : VH) => v_RefSame (a := a) (b := b.take a.length) (S := S) ha hok
  simp only [evsV', List.map_take] at h
  rw [VCall_of (F := a_patoisref4_Begins) rfl rfl rfl rfl]
  unfold begins
  by_cases e : a.length ≤ b.length
  · have e' : (a.length : Int) ≤ (b.length : Int) := by omega
    simp -implicitDefEqProofs [a_patoisref4_Begins, c_patoisref4_Begins, binA, slcV, bndV, natV, e, e', h]
  · have e' : ¬ (a.length : Int) ≤ (b.length : Int) := by omega
    simp -implicitDefEqProofs [a_patoisref4_Begins, c_patoisref4_Begins, binA, e, e']
/-- Plumbing. -/
def plumb (e : Event) : Bool := decide (e.kind = 4) || (decide (e.kind = 5) || decide (e.kind = 6))
def erased (l : List Event) : List Event := l.filter fun e => !plumb e
theorem v_Erase_1 {e : Event} {S : VH} : VCall VT F_world_Erase_1 [.agg (encEv e)] [] S = some (.bool (plumb e), [], S) := by
  rw [VCall_of (F := a_world_Erase_1) rfl rfl rfl rfl]
  unfold plumb
  by_cases e1 : e.kind = 4 <;> by_cases e2 : e.kind = 5 <;> by_cases e3 : e.kind = 6 <;> simp -implicitDefEqProofs [a_world_Erase_1, c_world_Erase_1, binA, e1, e2, e3]
theorem v_RefErase_loop {a : List Event} {S : VH} (ha : a.length < 1000000) : ∀ (d j : Nat) (out : List Event), j + d = a.length → out.length ≤ j →
    loopX VT.E VT.Fl (VCall VT) c_patoisref4_Erase_l0 ⟨[(0, evsV' a), (3, evsV' out), (4, .int .i64 j)], [(3, .own)], S⟩ =
      some (.exit 0, ⟨[(0, evsV' a), (3, evsV' (out ++ erased (a.drop j))), (4, .int .i64 a.length), (8, .bool false)], [(3, .own)], S⟩) := by
  have hK : ∀ f w h, loopX VT.E VT.Fl (VCall VT) c_patoisref4_Erase_l0 ⟨f, w, h⟩ = loopX VT.E VT.Fl (VCall VT) c_patoisref4_Erase_l0 ⟨VFr.keep f [0, 3, 4], Rts.keep w.noCell [0, 3, 4], h⟩ := fun _ _ _ => loopX_keep
  intro d
  induction d with
  | zero =>
    intro j out hj ho
    obtain rfl : j = a.length := by omega
    rw [loopX_eq]
    simp -implicitDefEqProofs [c_patoisref4_Erase_l0, binA, erased]
  | succ d ih =>
    intro j out hj ho
    have h1 : j < a.length := by omega
    have hlt : (j : Int) < (a.length : Int) := by omega
    obtain ⟨x, hx, dx⟩ := next_at h1
    have hA := ih (j + 1) (out ++ [x]) (by omega) (by simp; omega)
    have hB := ih (j + 1) out (by omega) (by omega)
    push_cast at hA hB
    have e2 : (out.length + 1) * 72 ≤ 140737488355328 := by omega
    rw [loopX_eq, dx]
    generalize loopX VT.E VT.Fl (VCall VT) c_patoisref4_Erase_l0 = L at *
    have hp : ∀ {b : Bool}, plumb x = b → erased (x :: a.drop (j + 1)) = if b then erased (a.drop (j + 1)) else x :: erased (a.drop (j + 1)) := fun {b} h => by
      unfold erased; rw [List.filter_cons, h]; cases b <;> rfl
    by_cases e4 : x.kind = 4
    · rw [hp (b := true) (by simp [plumb, e4])]
      simp -implicitDefEqProofs [c_patoisref4_Erase_l0, binA, hlt, hx, e4, wrap_succ h1 (by omega)]
      rw [hK]
      simpa [evsV'] using hB
    by_cases e5 : x.kind = 5
    · rw [hp (b := true) (by simp [plumb, e5])]
      simp -implicitDefEqProofs [c_patoisref4_Erase_l0, binA, hlt, hx, e4, e5, wrap_succ h1 (by omega)]
      rw [hK]
      simpa [evsV'] using hB
    by_cases e6 : x.kind = 6
    · rw [hp (b := true) (by simp [plumb, e6])]
      simp -implicitDefEqProofs [c_patoisref4_Erase_l0, binA, hlt, hx, e4, e5, e6, wrap_succ h1 (by omega)]
      rw [hK]
      simpa [evsV'] using hB
    · rw [hp (b := false) (by simp [plumb, e4, e5, e6])]
      simp -implicitDefEqProofs [c_patoisref4_Erase_l0, binA, hlt, hx, e4, e5, e6, e2, wrap_succ h1 (by omega)]
      rw [hK]
      simpa [evsV', encEv] using hA
theorem v_RefErase {a : List Event} {S : VH} (ha : a.length < 1000000) : VCall VT F_patoisref4_Erase [evsV' a] [] S = some (evsV' (erased a), [], S) := by
  have := v_RefErase_loop (S := S) ha a.length 0 [] (by omega) (Nat.zero_le _)
  simp [evsV'] at this
  rw [VCall_of (F := a_patoisref4_Erase) rfl rfl rfl rfl]
  simp -implicitDefEqProofs [a_patoisref4_Erase, c_patoisref4_Erase, this]
end Go.Proofs.YtlecbjcloleiiaaDoor.Val

/-! What is erased, in place. -/
set_option linter.unusedSimpArgs false
set_option linter.unusedVariables false
namespace Go.Proofs.YtlecbjcloleiiaaDoor.Val
open Go Go.Proofs.YtlecbjcloleiiaaDoor.Ram

theorem evC_take {l : List Event} {k : Nat} {x : Event} (h : l[k]? = some x) : ((evC l).drop (k * 5)).take 5 = encEv x := flat_take (e := encEv) (fun _ => rfl) h
theorem evC_set : ∀ {l : List Event} {k : Nat} {x : Event}, k < l.length → (evC l).take (k * 5) ++ (V.int .i64 x.kind :: V.int .i64 x.n :: V.str x.a :: V.str x.b :: V.lst 1 (x.l.map strRow) :: (evC l).drop (k * 5 + 5)) = evC (l.set k x)
  | [], k, x, h => by simp at h
  | y :: l, 0, x, h => by simp [evC]
  | y :: l, k + 1, x, h => by
    have := evC_set (l := l) (k := k) (x := x) (by simpa using h)
    simp only [evC, List.map_cons, List.flatten_cons, List.set_cons_succ] at this ⊢
    rw [← this, show (k + 1) * 5 = (encEv y).length + k * 5 by simp; omega, List.take_length_add_append, show (encEv y).length + k * 5 + 5 = (encEv y).length + (k * 5 + 5) by omega, List.drop_length_add_append, List.append_assoc]
theorem evC_takeW {l : List Event} {w : Nat} : (evC l).take (w * 5) = evC (l.take w) := by
  by_cases h : w ≤ l.length
  · have e : l = l.take w ++ l.drop w := (List.take_append_drop w l).symm
    conv => lhs; rw [e]
    rw [evC_app, List.take_append_of_le_length (by simp; omega), List.take_of_length_le (by simp; omega)]
  · rw [List.take_of_length_le (by simp; omega), List.take_of_length_le (by omega)]
theorem clos_rep {n : Nat} {z : List V} (h : V.clos n z = true) : ∀ {k : Nat}, V.clos n (List.replicate k z).flatten = true
  | 0 => rfl
  | k + 1 => by rw [List.replicate_succ, List.flatten_cons, clos_app, h, clos_rep h (k := k)]; rfl
theorem clos_drop {n k : Nat} {l : List V} (h : V.clos n l = true) : V.clos n (l.drop k) = true := by
  have : V.clos n (l.take k ++ l.drop k) = true := by rw [List.take_append_drop]; exact h
  rw [clos_app, Bool.and_eq_true] at this
  exact this.2
@[simp] theorem clos_dropE {n k : Nat} {l : List Event} : V.clos n ((evC l).drop k) = true := clos_drop clos_evC
@[simp] theorem clos_repE {n k : Nat} : V.clos n (List.replicate k [V.int .i64 0, V.int .i64 0, V.str [], V.str [], V.lst 1 []]).flatten = true := clos_rep rfl
section
variable {S : VH} {i : Nat} {cap : Option Nat}
theorem v_IndexFunc_loop {a : List Event} (ha : a.length < 1000000) (hi : i < S.next) (hg : S.get i = some (.cells (evC a) [])) : ∀ (d j : Nat), j + d = a.length →
    (erased (a.drop j) = a.drop j ∧ loopX VT.E VT.Fl (VCall VT) c_slices_IndexFunc_api_Event_api_Event_l0 ⟨[(0, .sl (some (i, 0)) 5 a.length cap), (1, .fn F_world_Erase_1 []), (7, .int .i64 a.length), (8, .int .i64 j)], [], S⟩ = some (.exit 0, ⟨[(0, .sl (some (i, 0)) 5 a.length cap), (1, .fn F_world_Erase_1 []), (7, .int .i64 a.length), (8, .int .i64 a.length), (9, .bool false)], [], S⟩)) ∨
    (∃ k x f, j ≤ k ∧ a[k]? = some x ∧ plumb x = true ∧ erased ((a.take k).drop j) = (a.take k).drop j ∧ loopX VT.E VT.Fl (VCall VT) c_slices_IndexFunc_api_Event_api_Event_l0 ⟨[(0, .sl (some (i, 0)) 5 a.length cap), (1, .fn F_world_Erase_1 []), (7, .int .i64 a.length), (8, .int .i64 j)], [], S⟩ = some (.ret, ⟨(4, .int .i64 (k : Nat)) :: f, [], S⟩)) := by
  have hK : ∀ f w h, loopX VT.E VT.Fl (VCall VT) c_slices_IndexFunc_api_Event_api_Event_l0 ⟨f, w, h⟩ = loopX VT.E VT.Fl (VCall VT) c_slices_IndexFunc_api_Event_api_Event_l0 ⟨VFr.keep f [0, 1, 7, 8], Rts.keep w.noCell [0, 1, 7, 8], h⟩ := fun _ _ _ => loopX_keep
  intro d
  induction d with
  | zero =>
    intro j hj
    obtain rfl : j = a.length := by omega
    left
    rw [loopX_eq]
    simp -implicitDefEqProofs [c_slices_IndexFunc_api_Event_api_Event_l0, binA, erased]
  | succ d ih =>
    intro j hj
    have h1 : j < a.length := by omega
    have hlt : (j : Int) < (a.length : Int) := by omega
    obtain ⟨x, hx, dx⟩ := next_at h1
    have ht := evC_take hx
    have hle : j * 5 + 5 ≤ a.length * 5 := by omega
    have hE := fun (S : VH) => v_Erase_1 (e := x) (S := S)
    have := ih (j + 1) (by omega)
    push_cast at this
    by_cases e : plumb x = true
    · right
      refine ⟨j, x, ?_⟩
      rw [loopX_eq]
      generalize loopX VT.E VT.Fl (VCall VT) c_slices_IndexFunc_api_Event_api_Event_l0 = L at *
      have h0 : erased ((a.take j).drop j) = (a.take j).drop j := by rw [List.drop_eq_nil_of_le (by simp; omega)]; rfl
      simp -implicitDefEqProofs [c_slices_IndexFunc_api_Event_api_Event_l0, binA, hlt, h1, hi, hg, ht, hle, hE, e, hx, h0]
      exact ⟨(List.getElem?_eq_some_iff.1 hx).2, rfl⟩
    · simp only [Bool.not_eq_true] at e
      have step : loopX VT.E VT.Fl (VCall VT) c_slices_IndexFunc_api_Event_api_Event_l0 ⟨[(0, .sl (some (i, 0)) 5 a.length cap), (1, .fn F_world_Erase_1 []), (7, .int .i64 a.length), (8, .int .i64 j)], [], S⟩ = loopX VT.E VT.Fl (VCall VT) c_slices_IndexFunc_api_Event_api_Event_l0 ⟨[(0, .sl (some (i, 0)) 5 a.length cap), (1, .fn F_world_Erase_1 []), (7, .int .i64 a.length), (8, .int .i64 ((j : Int) + 1))], [], S⟩ := by
        rw [loopX_eq]
        generalize loopX VT.E VT.Fl (VCall VT) c_slices_IndexFunc_api_Event_api_Event_l0 = L at *
        simp -implicitDefEqProofs [c_slices_IndexFunc_api_Event_api_Event_l0, binA, hlt, h1, hi, hg, ht, hle, hE, e, wrap_succ h1 (by omega)]
        conv => lhs; rw [hK]
        simp
      rw [step]
      rcases this with ⟨q, this⟩ | ⟨k, y, f, q1, q2, q3, q4, this⟩
      · left
        refine ⟨?_, this⟩
        rw [dx]; unfold erased at q ⊢; rw [List.filter_cons, e]; simp [q]
      · right
        refine ⟨k, y, f, by omega, q2, q3, ?_, this⟩
        have hk : j < (a.take k).length := by have := (List.getElem?_eq_some_iff.1 q2).1; simp; omega
        have hx2 : (a.take k)[j]'hk = x := by
          rw [List.getElem_take]; exact (List.getElem?_eq_some_iff.1 hx).2
        rw [List.drop_eq_getElem_cons hk, hx2]; unfold erased at q4 ⊢; rw [List.filter_cons, e]; simp [q4]
theorem v_IndexFunc {a : List Event} (ha : a.length < 1000000) (hi : i < S.next) (hg : S.get i = some (.cells (evC a) [])) : (erased a = a ∧ VCall VT F_slices_IndexFunc_api_Event_api_Event [.sl (some (i, 0)) 5 a.length cap, .fn F_world_Erase_1 []] [] S = some (.int .i64 (-1), [], S)) ∨
    ∃ k x, a[k]? = some x ∧ plumb x = true ∧ erased (a.take k) = a.take k ∧ VCall VT F_slices_IndexFunc_api_Event_api_Event [.sl (some (i, 0)) 5 a.length cap, .fn F_world_Erase_1 []] [] S = some (.int .i64 (k : Nat), [], S) := by
  rw [VCall_of (F := a_slices_IndexFunc_api_Event_api_Event) rfl rfl rfl rfl]
  have := v_IndexFunc_loop (cap := cap) ha hi hg a.length 0 (by omega)
  push_cast at this
  rcases this with ⟨q, this⟩ | ⟨k, x, f, q1, q2, q3, q4, this⟩
  · left
    rw [List.drop_zero] at q
    refine ⟨q, ?_⟩
    simp -implicitDefEqProofs [a_slices_IndexFunc_api_Event_api_Event, c_slices_IndexFunc_api_Event_api_Event, this]
  · right
    rw [List.drop_zero] at q4
    refine ⟨k, x, q2, q3, q4, ?_⟩
    simp -implicitDefEqProofs [a_slices_IndexFunc_api_Event_api_Event, c_slices_IndexFunc_api_Event_api_Event, this]
end
theorem v_Delete_loop {a : List Event} {i : Nat} {cap : Option Nat} (ha : a.length < 1000000) : ∀ (d j w : Nat) (rows : List Event) (S : VH), j + d = a.length → w < j → rows.length = a.length → rows.take w = erased (a.take j) → rows.drop j = a.drop j → i < S.next → S.get i = some (.cells (evC rows) []) →
    ∃ rows', rows'.length = a.length ∧ rows'.take (erased a).length = erased a ∧ loopX VT.E VT.Fl (VCall VT) c_slices_DeleteFunc_api_Event_api_Event_l0 ⟨[(0, .sl (some (i, 0)) 5 a.length cap), (1, .fn F_world_Erase_1 []), (5, .int .i64 w), (6, .int .i64 j)], [], S⟩ =
      some (.exit 0, ⟨[(0, .sl (some (i, 0)) 5 a.length cap), (1, .fn F_world_Erase_1 []), (5, .int .i64 (erased a).length), (6, .int .i64 a.length), (19, .bool false)], [], S.set i (.cells (evC rows') [])⟩) := by
  have hK : ∀ f w h, loopX VT.E VT.Fl (VCall VT) c_slices_DeleteFunc_api_Event_api_Event_l0 ⟨f, w, h⟩ = loopX VT.E VT.Fl (VCall VT) c_slices_DeleteFunc_api_Event_api_Event_l0 ⟨VFr.keep f [0, 1, 5, 6], Rts.keep w.noCell [0, 1, 5, 6], h⟩ := fun _ _ _ => loopX_keep
  intro d
  induction d with
  | zero =>
    intro j w rows S hj hw hl ht hd hi hg
    obtain rfl : j = a.length := by omega
    rw [List.take_length] at ht
    have hwl : w = (erased a).length := by rw [← ht, List.length_take]; omega
    subst hwl
    refine ⟨rows, hl, ht, ?_⟩
    rw [loopX_eq, set_self hg]
    simp -implicitDefEqProofs [c_slices_DeleteFunc_api_Event_api_Event_l0, binA]
  | succ d ih =>
    intro j w rows S hj hw hl ht hd hi hg
    have h1 : j < a.length := by omega
    have hlt : (j : Int) < (a.length : Int) := by omega
    have hwlt : (w : Int) < (a.length : Int) := by omega
    obtain ⟨x, hx, dx⟩ := next_at h1
    have hrx : rows[j]? = some x := by
      have h2 : (rows.drop j)[0]? = (a.drop j)[0]? := by rw [hd]
      simpa [hx] using h2
    have hdr : rows.drop (j + 1) = a.drop (j + 1) := by
      have h2 : (rows.drop j).drop 1 = (a.drop j).drop 1 := by rw [hd]
      simpa [List.drop_drop] using h2
    have htk := evC_take hrx
    have hle : j * 5 + 5 ≤ a.length * 5 := by omega
    have hle2 : w * 5 + 5 ≤ a.length * 5 := by omega
    have hw1 : w < a.length := by omega
    have hE := fun (S : VH) => v_Erase_1 (e := x) (S := S)
    have hta : a.take (j + 1) = a.take j ++ [x] := by rw [List.take_add_one, hx]; rfl
    have hin : i ≠ S.next := by omega
    have hi1 : i < S.next + 1 := by omega
    by_cases e : plumb x = true
    · obtain ⟨rows', k1, k2, k3⟩ := ih (j + 1) w rows S (by omega) (by omega) hl (by rw [ht, hta]; unfold erased; rw [List.filter_append]; simp [e]) hdr hi hg
      push_cast at k3
      refine ⟨rows', k1, k2, ?_⟩
      rw [loopX_eq]
      generalize loopX VT.E VT.Fl (VCall VT) c_slices_DeleteFunc_api_Event_api_Event_l0 = L at *
      simp -implicitDefEqProofs [c_slices_DeleteFunc_api_Event_api_Event_l0, binA, hlt, h1, hi, hg, htk, hle, hl, hE, e, hin, wrap_succ h1 (by omega)]
      rw [hK]
      simpa using k3
    · simp only [Bool.not_eq_true] at e
      have hst := evC_set (l := rows) (k := w) (x := x) (by omega)
      have hc1 : IntKind.i64.wrap ((w : Int) + 1) = (w : Int) + 1 := by
        have := wrap_succ (j := w) (n := a.length) (by omega) (by omega)
        rw [this]; simp
      obtain ⟨rows', k1, k2, k3⟩ := ih (j + 1) (w + 1) (rows.set w x) (S.set i (.cells (evC (rows.set w x)) [])) (by omega) (by omega) (by simp [hl]) (by
          have h3 : (rows.set w x).take (w + 1) = rows.take w ++ [x] := by
            have hlt2 : w < (rows.set w x).length := by simp; omega
            rw [List.take_succ_eq_append_getElem hlt2, List.getElem_set_self, List.take_set_of_le (Nat.le_refl _)]
          rw [h3, ht, hta]; unfold erased; rw [List.filter_append]; simp [e]) (by rw [List.drop_set_of_lt (by omega)]; exact hdr) hi (by simp)
      push_cast at k3
      refine ⟨rows', k1, k2, ?_⟩
      rw [loopX_eq]
      generalize loopX VT.E VT.Fl (VCall VT) c_slices_DeleteFunc_api_Event_api_Event_l0 = L at *
      simp -implicitDefEqProofs [c_slices_DeleteFunc_api_Event_api_Event_l0, binA, hlt, hwlt, h1, hw1, hi, hi1, hg, htk, hle, hle2, hl, hE, e, hin, hst, hc1, trim_in hi, wrap_succ h1 (by omega)]
      rw [hK]
      simpa using k3
/-- What DeleteFunc leaves. -/
theorem v_Delete {a : List Event} {S : VH} {i : Nat} {cap : Option Nat} (ha : a.length < 1000000) (hi : i < S.next) (hg : S.get i = some (.cells (evC a) [])) :
    ∃ cs, VCall VT F_slices_DeleteFunc_api_Event_api_Event [.sl (some (i, 0)) 5 a.length cap, .fn F_world_Erase_1 []] [] S = some (.sl (some (i, 0)) 5 (erased a).length (if erased a = a then cap else cap), [], S.set i (.cells (evC (erased a) ++ cs) [])) := by
  rw [VCall_of (F := a_slices_DeleteFunc_api_Event_api_Event) rfl rfl rfl rfl]
  rcases v_IndexFunc (cap := cap) ha hi hg with ⟨q, hI⟩ | ⟨k, x, q1, q2, q3, hI⟩
  · refine ⟨[], ?_⟩
    rw [q, List.append_nil, set_self hg]
    simp -implicitDefEqProofs [a_slices_DeleteFunc_api_Event_api_Event, c_slices_DeleteFunc_api_Event_api_Event, binA, hI, hi]
  · have hk : k < a.length := (List.getElem?_eq_some_iff.1 q1).1
    have hta : a.take (k + 1) = a.take k ++ [x] := by rw [List.take_add_one, q1]; rfl
    obtain ⟨rows', k1, k2, k3⟩ := v_Delete_loop (i := i) (cap := cap) ha (a.length - (k + 1)) (k + 1) k a S (by omega) (by omega) rfl (by rw [hta]; unfold erased at q3 ⊢; rw [List.filter_append, q3]; simp [q2]) rfl hi hg
    push_cast at k3
    have hw : (erased a).length ≤ a.length := by unfold erased; exact List.length_filter_le _ _
    have hw' : ((erased a).length : Int) ≤ (a.length : Int) := by omega
    have hc1 : IntKind.i64.wrap ((k : Int) + 1) = (k : Int) + 1 := by
      have := wrap_succ (j := k) (n := a.length) (by omega) (by omega)
      rw [this]; simp
    have hm1 : ¬ ((k : Int) = -1) := by omega
    have hle : (erased a).length * 5 + (a.length - (erased a).length) * 5 ≤ a.length * 5 := by omega
    have htw : (evC rows').take ((erased a).length * 5) = evC (erased a) := by rw [evC_takeW, k2]
    simp -implicitDefEqProofs [a_slices_DeleteFunc_api_Event_api_Event, c_slices_DeleteFunc_api_Event_api_Event, binA, slcV, bndV, natV, hI, hi, hc1, hm1, k3, hw, hw', k1, hle, htw, trim_in hi]
    exact ⟨_, rfl⟩
theorem v_Erase {a : List Event} {S : VH} (ha : a.length < 1000000) (hok : EvOk a) : VCall VT F_world_Erase [evsV' a] [] S = some (evsV' (erased a), [], S) := by
  obtain ⟨out, S1, k1, hc⟩ := v_copied (S := S) ha hok
  rw [VCall_frz (F := a_world_Erase) rfl rfl rfl rfl]
  rcases k1.2 with ⟨rfl, rfl⟩ | ⟨h0, i, g1, g2, rfl, g4⟩
  · have hD : VCall VT F_slices_DeleteFunc_api_Event_api_Event [.sl none 5 0 none, .fn F_world_Erase_1 []] [] S1 = some (.sl none 5 0 none, [], S1) := by
      have hI : VCall VT F_slices_IndexFunc_api_Event_api_Event [.sl none 5 0 none, .fn F_world_Erase_1 []] [] S1 = some (.int .i64 (-1), [], S1) := by
        have hl : loopX VT.E VT.Fl (VCall VT) c_slices_IndexFunc_api_Event_api_Event_l0 ⟨[(0, .sl none 5 0 none), (1, .fn F_world_Erase_1 []), (7, .int .i64 0), (8, .int .i64 0)], [], S1⟩ = some (.exit 0, ⟨[(0, .sl none 5 0 none), (1, .fn F_world_Erase_1 []), (7, .int .i64 0), (8, .int .i64 0), (9, .bool false)], [], S1⟩) := by
          rw [loopX_eq]
          simp -implicitDefEqProofs [c_slices_IndexFunc_api_Event_api_Event_l0, binA]
        rw [VCall_of (F := a_slices_IndexFunc_api_Event_api_Event) rfl rfl rfl rfl]
        simp -implicitDefEqProofs [a_slices_IndexFunc_api_Event_api_Event, c_slices_IndexFunc_api_Event_api_Event, hl]
      rw [VCall_of (F := a_slices_DeleteFunc_api_Event_api_Event) rfl rfl rfl rfl]
      simp -implicitDefEqProofs [a_slices_DeleteFunc_api_Event_api_Event, c_slices_DeleteFunc_api_Event_api_Event, binA, hI]
    have k3 := k1.1.clo
    have k4 := k1.1.trim
    simp -implicitDefEqProofs [a_world_Erase, c_world_Erase, hc, hD, k3, k4, erased]
  · obtain ⟨cs, hD⟩ := v_Delete (cap := none) ha g2 g4
    simp only [ite_self] at hD
    have hr := rowsOf_ev (l := erased a) (cs := cs)
    have hle : (erased a).length * 5 ≤ (erased a).length * 5 + cs.length := by omega
    have hF : Fresh S (S1.set i (.cells (evC (erased a) ++ cs) [])) := ⟨k1.1.1, fun q hq => by
      have : ¬ q = i := by omega
      simp [this, k1.1.2 q hq]⟩
    have k3 := hF.clo
    have k4 := hF.trim
    have e : ¬ i < S.next := by omega
    simp -implicitDefEqProofs [a_world_Erase, c_world_Erase, hc, hD, k3, k4, e, hr]
end Go.Proofs.YtlecbjcloleiiaaDoor.Val

/-! KernelBegins answers true. -/
set_option linter.unusedSimpArgs false
set_option linter.unusedVariables false
namespace Go.Proofs.YtlecbjcloleiiaaDoor.Val
open Go Go.Proofs.YtlecbjcloleiiaaDoor.Ram

theorem and_63 (a : Int) : ∃ k : Nat, k ≤ 63 ∧ andI a 63 = k := by
  unfold andI
  have h : (BitVec.ofInt IntKind.i64.bits a &&& BitVec.ofInt IntKind.i64.bits 63).toNat = (BitVec.ofInt IntKind.i64.bits a).toNat &&& 63 := by
    rw [BitVec.toNat_and]; rfl
  rw [h]
  have hle : (BitVec.ofInt IntKind.i64.bits a).toNat &&& 63 ≤ 63 := Nat.and_le_right
  exact ⟨_, hle, i64_lt (by omega)⟩
theorem v_Begins_loop {a b : List Event} {n : Int} {S : VH} (ha : a.length ≤ 60) (hb : b.length ≤ 60) : ∀ (d j : Nat), j + d = (a ++ b).length →
    ((∀ e ∈ (a ++ b).drop j, e.l.length ≤ 30) ∧ loopX VT.E VT.Fl (VCall VT) c_patoislaw4_KernelBegins_l0 ⟨[(0, evsV' a), (1, evsV' b), (2, .int .i64 n), (8, .int .i64 j)], [], S⟩ = some (.exit 0, ⟨[(0, evsV' a), (1, evsV' b), (2, .int .i64 n), (8, .int .i64 (a.length + b.length)), (31, .bool false)], [], S⟩)) ∨
    (∃ f S', Fresh S S' ∧ loopX VT.E VT.Fl (VCall VT) c_patoislaw4_KernelBegins_l0 ⟨[(0, evsV' a), (1, evsV' b), (2, .int .i64 n), (8, .int .i64 j)], [], S⟩ = some (.ret, ⟨(6, .bool true) :: f, [], S'⟩)) := by
  have hK : ∀ f w h, loopX VT.E VT.Fl (VCall VT) c_patoislaw4_KernelBegins_l0 ⟨f, w, h⟩ = loopX VT.E VT.Fl (VCall VT) c_patoislaw4_KernelBegins_l0 ⟨VFr.keep f [0, 1, 2, 8], Rts.keep w.noCell [0, 1, 2, 8], h⟩ := fun _ _ _ => loopX_keep
  have hw : IntKind.i64.wrap ((a.length : Int) + (b.length : Int)) = (a.length : Int) + (b.length : Int) := Go.IntWalk.i64_in _ ⟨by omega, by omega⟩
  intro d
  induction d with
  | zero =>
    intro j hj
    obtain rfl : j = (a ++ b).length := by omega
    left
    have e0 : ¬ ((a.length : Int) + (b.length : Int) < (a.length : Int) + (b.length : Int)) := by omega
    rw [loopX_eq]
    simp -implicitDefEqProofs [c_patoislaw4_KernelBegins_l0, binA, hw]
  | succ d ih =>
    intro j hj
    have hl : (a ++ b).length = a.length + b.length := by simp
    have h1 : j < (a ++ b).length := by omega
    have hlt : (j : Int) < (a.length : Int) + (b.length : Int) := by omega
    obtain ⟨x, hx, dx⟩ := next_at h1
    have hws : IntKind.i64.wrap ((j : Int) + 1) = (j : Int) + 1 := by
      have := wrap_succ (j := j) (n := (a ++ b).length) (by omega) (by omega)
      rw [this]; simp
    have := ih (j + 1) (by omega)
    push_cast at this
    rw [loopX_eq, dx]
    generalize loopX VT.E VT.Fl (VCall VT) c_patoislaw4_KernelBegins_l0 = L at *
    have hF : ∀ o, Fresh S (S.push o) := fun o => ⟨by simp, fun q hq => by
      have e2 : ¬ q = S.next := by omega
      simp [e2]⟩
    by_cases e1 : j < a.length
    · have e1' : (j : Int) < (a.length : Int) := by omega
      have hxa : a[j]? = some x := by rw [List.getElem?_append_left e1] at hx; exact hx
      by_cases e2 : 30 < x.l.length
      · right
        have e2' : (30 : Int) < (x.l.length : Int) := by omega
        simp -implicitDefEqProofs [c_patoislaw4_KernelBegins_l0, binA, hw, hlt, e1', hxa, e2']
        first | exact ⟨_, hF _, rfl⟩ | exact ⟨_, _, hF _, rfl⟩ | exact ⟨_, _, hF _, rfl, rfl⟩ | exact hF _
      · have e2' : ¬ (30 : Int) < (x.l.length : Int) := by omega
        by_cases e3 : (3000 : Int) < IntKind.i64.wrap ((x.a.length : Int) + (x.b.length : Int))
        · right
          simp -implicitDefEqProofs [c_patoislaw4_KernelBegins_l0, binA, hw, hlt, e1', hxa, e2', e3]
          first | exact ⟨_, hF _, rfl⟩ | exact ⟨_, _, hF _, rfl⟩ | exact ⟨_, _, hF _, rfl, rfl⟩ | exact hF _
        · have e4 : x.l.length ≤ 30 := by omega
          simp -implicitDefEqProofs [c_patoislaw4_KernelBegins_l0, binA, hw, hws, hlt, e1', hxa, e2', e3, e4]
          rw [hK]
          simpa using this
    · have e1' : ¬ (j : Int) < (a.length : Int) := by omega
      have hsub : IntKind.i64.wrap ((j : Int) - (a.length : Int)) = ((j - a.length : Nat) : Int) := by
        have h0 : (j : Int) - (a.length : Int) = ((j - a.length : Nat) : Int) := by omega
        rw [h0]; exact i64_lt (by omega)
      have hxb : b[j - a.length]? = some x := by rw [List.getElem?_append_right (by omega)] at hx; exact hx
      by_cases e2 : 30 < x.l.length
      · right
        have e2' : (30 : Int) < (x.l.length : Int) := by omega
        simp -implicitDefEqProofs [c_patoislaw4_KernelBegins_l0, binA, hw, hlt, e1', hsub, hxb, e2']
        first | exact ⟨_, hF _, rfl⟩ | exact ⟨_, _, hF _, rfl⟩ | exact ⟨_, _, hF _, rfl, rfl⟩ | exact hF _
      · have e2' : ¬ (30 : Int) < (x.l.length : Int) := by omega
        by_cases e3 : (3000 : Int) < IntKind.i64.wrap ((x.a.length : Int) + (x.b.length : Int))
        · right
          simp -implicitDefEqProofs [c_patoislaw4_KernelBegins_l0, binA, hw, hlt, e1', hsub, hxb, e2', e3]
          first | exact ⟨_, hF _, rfl⟩ | exact ⟨_, _, hF _, rfl⟩ | exact ⟨_, _, hF _, rfl, rfl⟩ | exact hF _
        · have e4 : x.l.length ≤ 30 := by omega
          simp -implicitDefEqProofs [c_patoislaw4_KernelBegins_l0, binA, hw, hws, hlt, e1', hsub, hxb, e2', e3, e4]
          rw [hK]
          simpa using this
theorem erased_erased {a : List Event} : erased (erased a) = erased a := by
  unfold erased; rw [List.filter_filter]; congr 1; funext e; simp
theorem v_KBegins {a b : List Event} {n : Int} {S : VH} : VCall VT F_patoislaw4_KernelBegins [evsV' a, evsV' b, .int .i64 n] [] S = some (.bool true, [], S) := by
  rw [VCall_of (F := a_patoislaw4_KernelBegins) rfl rfl rfl rfl]
  by_cases h1 : a.length ≤ 60
  rotate_left
  · have h1' : (60 : Int) < (a.length : Int) := by omega
    simp -implicitDefEqProofs [a_patoislaw4_KernelBegins, c_patoislaw4_KernelBegins, binA, v_first, h1']
  have h1' : ¬ (60 : Int) < (a.length : Int) := by omega
  by_cases h2 : b.length ≤ 60
  rotate_left
  · have h2' : (60 : Int) < (b.length : Int) := by omega
    simp -implicitDefEqProofs [a_patoislaw4_KernelBegins, c_patoislaw4_KernelBegins, binA, v_first, h1', h2']
  have h2' : ¬ (60 : Int) < (b.length : Int) := by omega
  have hL := v_Begins_loop (n := n) (S := S) h1 h2 (a ++ b).length 0 (by omega)
  push_cast at hL
  rw [List.drop_zero] at hL
  rcases hL with ⟨hok, hL⟩ | ⟨f, S', hF, hL⟩
  rotate_left
  · have k1 := hF.clo
    have k2 := hF.trim
    simp -implicitDefEqProofs [a_patoislaw4_KernelBegins, c_patoislaw4_KernelBegins, binA, v_first, h1', h2', hL, k1, k2]
  have oka : EvOk a := fun e he => by have := hok e (List.mem_append_left _ he); omega
  have okb : EvOk b := fun e he => by have := hok e (List.mem_append_right _ he); omega
  have oke : EvOk (erased a) := fun e he => oka e (List.mem_filter.1 he).1
  have hel : (erased a).length ≤ a.length := List.length_filter_le _ _
  obtain ⟨k, hk, hk'⟩ := and_63 n
  have c1 := fun (S : VH) => v_Begins (a := a) (b := b) (S := S) (by omega) oka
  have c2 := fun (S : VH) => v_RefBegins (a := a) (b := b) (S := S) (by omega) oka
  have c3 : ∀ (m : Nat) (S : VH), m ≤ a.length → VCall VT F_world_Begins [.lst 5 ((a.map encEv).take m), evsV' a] [] S = some (.bool true, [], S) := fun m S hm => by
    have okm : EvOk (a.take m) := fun e he => oka e (List.mem_of_mem_take he)
    have := v_Begins (a := a.take m) (b := a) (S := S) (by simp; omega) okm
    simp only [evsV', List.map_take] at this
    rw [this]
    have : begins (a.take m) a = true := by
      unfold begins
      simp only [List.length_take, Bool.and_eq_true, decide_eq_true_eq]
      exact ⟨by omega, by rw [Nat.min_eq_left hm]⟩
    rw [this]
  have c4 := fun (S : VH) => v_EvSame (a := a) (b := b) (S := S) (by omega) oka
  have c5 := fun (S : VH) => v_RefSame (a := a) (b := b) (S := S) (by omega) oka
  have c6 := fun (S : VH) => v_Erase (a := a) (S := S) (by omega) oka
  have c7 := fun (S : VH) => v_RefErase (a := a) (S := S) (by omega)
  have c8 := fun (S : VH) => v_RefSame (a := erased a) (b := erased a) (S := S) (by omega) oke
  have c9 := fun (S : VH) => v_Erase (a := erased a) (S := S) (by omega) oke
  simp only [erased_erased] at c9
  have c10 := fun (S : VH) => v_EvSame (a := erased a) (b := erased a) (S := S) (by omega) oke
  have c11 : ∀ S, VCall VT F_world_Begins [.lst 5 [], evsV' a] [] S = some (.bool true, [], S) := fun S => by
    have := v_Begins (a := []) (b := a) (S := S) (by simp) (fun e he => by cases he)
    exact this.trans (by simp [begins])
  by_cases e : a.length < k
  · have c3a := fun (S : VH) => c3 a.length S (Nat.le_refl _)
    have htk : (a.map encEv).take a.length = a.map encEv := List.take_of_length_le (by simp)
    rw [htk] at c3a
    simp -implicitDefEqProofs [a_patoislaw4_KernelBegins, c_patoislaw4_KernelBegins, binA, minmaxV, slcV, bndV, natV, v_first, h1', h2', hL, hk', e, htk, c1, c2, c3a, c4, c5, c6, c7, c8, c9, c10, c11]
  · have e' : k ≤ a.length := by omega
    have c3a := fun (S : VH) => c3 k S e'
    simp -implicitDefEqProofs [a_patoislaw4_KernelBegins, c_patoislaw4_KernelBegins, binA, minmaxV, slcV, bndV, natV, v_first, h1', h2', hL, hk', e, e', c1, c2, c3a, c4, c5, c6, c7, c8, c9, c10, c11]
end Go.Proofs.YtlecbjcloleiiaaDoor.Val
