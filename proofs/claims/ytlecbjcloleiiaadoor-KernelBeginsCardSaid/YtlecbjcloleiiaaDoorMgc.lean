/-
  Parts of the proof: RamT, RamB, RamC.
-/
import Derived.Test.YtlecbjcloleiiaaDoorMga
/-! The functions in the machine of RamA. By program (gen2.py). -/
namespace Go.Proofs.YtlecbjcloleiiaaDoor.Ram
open Go

def F_patoislaw4_KernelFiles : Nat := 3
def F_patoislaw4_KernelOwn : Nat := 4
def F_patoislaw4_KernelRows : Nat := 5
def F_patoislaw4_KernelMarks : Nat := 6
def F_patoislaw4_KernelPlays : Nat := 7
def F_patoislaw4_KernelBegins : Nat := 8
def F_patoislaw4_first : Nat := 9
def F_world_New : Nat := 10
def F_world_Kernel_Open : Nat := 11
def F_world_Kernel_Write : Nat := 12
def F_world_Kernel_Names : Nat := 13
def F_patoisref_Texts : Nat := 14
def F_world_Kernel_Exec : Nat := 15
def F_world_asked_Trace : Nat := 16
def F_world_Kernel_Files : Nat := 17
def F_patoisref_SameTexts : Nat := 18
def F_world_Kernel_Reads : Nat := 19
def F_world_asked_Mark : Nat := 20
def F_patoisref_SameEvents : Nat := 21
def F_world_Erase : Nat := 22
def F_world_asked_Len : Nat := 23
def F_patoislaw4_light : Nat := 24
def F_patoisref4_May : Nat := 25
def F_patoissee_Is : Nat := 26
def F_world_May : Nat := 27
def F_patoisref4_New : Nat := 28
def F_patoisref4_Kernel_Exec : Nat := 29
def F_patoisref4_Kernel_Reads : Nat := 30
def F_patoisref4_Kernel_Open : Nat := 31
def F_patoisref4_Kernel_Write : Nat := 32
def F_patoisref4_Kernel_Mark : Nat := 33
def F_patoisref_SameFiles : Nat := 34
def F_patoisref4_Kernel_Names : Nat := 35
def F_patoisref4_Erase : Nat := 36
def F_world_Begins : Nat := 37
def F_patoisref4_Begins : Nat := 38
def F_world_SameEvents : Nat := 39
def F_slices_Clone_api_File_api_File : Nat := 40
def F_slices_SortFunc_api_File_api_File : Nat := 41
def F_world_byName : Nat := 42
def F_slices_Clone_string_string : Nat := 43
def F_world_Kernel_file : Nat := 44
def F_world_asked_note : Nat := 45
def F_world_Kernel_made : Nat := 46
def F_world_Kernel_row : Nat := 47
def F_world_copied : Nat := 48
def F_patoisref_SameEvent : Nat := 49
def F_slices_DeleteFunc_api_Event_api_Event : Nat := 50
def F_world_Erase_1 : Nat := 51
def F_patoissee_Same : Nat := 52
def F_patoisref_Bare : Nat := 53
def F_slices_ContainsFunc_string_string : Nat := 54
def F_world_May_1 : Nat := 55
def F_patoisref4_Kernel_put : Nat := 56
def F_patoisref4_Kernel_row : Nat := 57
def F_patoisref4_Kernel_find : Nat := 58
def F_patoisref_SameFile : Nat := 59
def F_slices_EqualFunc_api_Event_api_Event_api_Event_api_Event : Nat := 60
def F_world_same : Nat := 61
def F_slices_pdqsortCmpFunc_api_File : Nat := 62
def F_math_bits_Len : Nat := 63
def F_strings_Compare : Nat := 64
def F_slices_BinarySearchFunc_api_File_api_File_api_File : Nat := 65
def F_slices_Insert_api_File_api_File : Nat := 66
def F_slices_Equal_string_string : Nat := 67
def F_slices_IndexFunc_api_Event_api_Event : Nat := 68
def F_patoissee_Fault : Nat := 69
def F_patoisref_SameFault : Nat := 70
def F_slices_IndexFunc_string_string : Nat := 71
def F_slices_insertionSortCmpFunc_api_File : Nat := 72
def F_slices_heapSortCmpFunc_api_File : Nat := 73
def F_slices_breakPatternsCmpFunc_api_File : Nat := 74
def F_slices_choosePivotCmpFunc_api_File : Nat := 75
def F_slices_reverseRangeCmpFunc_api_File : Nat := 76
def F_slices_partialInsertionSortCmpFunc_api_File : Nat := 77
def F_slices_partitionEqualCmpFunc_api_File : Nat := 78
def F_slices_partitionCmpFunc_api_File : Nat := 79
def F_math_bits_Len32 : Nat := 80
def F_math_bits_Len64 : Nat := 81
def F_internal_bytealg_CompareString : Nat := 82
def F_patoisref_None : Nat := 85
def F_patoissee_fault : Nat := 86
def F_patoisref_SameInts : Nat := 87
def F_patoissee_sentinel : Nat := 96
def F_patoissee_sentinels : Nat := 99
def F_patoissee_Alike : Nat := 100
def Ty_perrors_errorString : Nat := 146
def G_api_ErrBig : Nat := 0
def G_api_ErrMany : Nat := 1
def G_api_ErrName : Nat := 2
def G_api_ErrLong : Nat := 3
def G_api_ErrNumber : Nat := 4
/- patois/patoislaw4.KernelFiles -/
def c_patoislaw4_KernelFiles_l0 : ACode :=
 .keep [0, 1, 6, 8, 9] (.seq (.seq (.reg [.o 48 (.mov (.t 9)),
 .o 49 (.mov (.t 0)),
 .o 50 (.len false (.t 49)),
 .o 51 (.bin .lss (.t 48) (.t 50))])
 (.keep [0, 1, 6, 8, 9, 51] (.cond (.t 51)
 (.skip)
 (.exit 0))))
 (.keep [0, 1, 6, 8, 9] (.seq (.block 1 (.seq (.seq (.reg [.o 54 (.mov (.t 0)),
 .o 55 (.mov (.t 9)),
 .o 56 (.indexA 6 (.t 54) (.t 55)),
 .o 57 (.fieldA 4 (.t 56)),
 .o 58 (.load 1 false (.t 57)),
 .o 59 (.len true (.t 58)),
 .o 60 (.bin .gtr (.t 59) (.c (.int .i64 300)))])
 (.keep [0, 1, 6, 8, 9, 60] (.cond (.t 60)
 (.seq (.reg [.o 4 (.mov (.c (.bool true)))])
 (.ret))
 (.skip))))
 (.keep [0, 1, 6, 8, 9] (.seq (.seq (.reg [.o 61 (.mov (.t 0)),
 .o 62 (.mov (.t 9)),
 .o 63 (.indexA 6 (.t 61) (.t 62)),
 .o 64 (.fieldA 0 (.t 63)),
 .o 65 (.load 1 false (.t 64)),
 .o 66 (.bin .eql (.t 65) (.c (.int .i64 2)))])
 (.keep [0, 1, 6, 8, 9, 66] (.cond (.t 66)
 (.seq (.reg [.o 68 (.mov (.t 6)),
 .o 69 (.mov (.t 0)),
 .o 70 (.mov (.t 9)),
 .o 71 (.indexA 6 (.t 69) (.t 70)),
 .o 72 (.fieldA 1 (.t 71)),
 .o 73 (.load 1 false (.t 72)),
 .o 74 (.bin .and (.t 73) (.c (.int .i64 1))),
 .o 75 (.bin .add (.t 74) (.c (.int .i64 2))),
 .o 76 (.callF F_world_Kernel_Open [(.t 68), (.c (.str [97])), (.t 75)]),
 .o 67 (.mov (.t 76)),
 .o 77 (.extract (.t 67) 0),
 .o 78 (.extract (.t 67) 1),
 .o 10 (.mov (.t 77)),
 .o 11 (.mov (.t 78))])
 (.keep [0, 1, 6, 8, 9, 11] (.seq (.seq (.reg [.o 79 (.mov (.t 11)),
 .o 80 (.not (.t 79))])
 (.keep [0, 1, 6, 8, 9, 80] (.cond (.t 80)
 (.seq (.reg [.o 4 (.mov (.c (.bool false)))])
 (.ret))
 (.skip))))
 (.keep [0, 1, 6, 8, 9] (.seq (.seq (.reg [.o 81 (.mov (.t 0)),
 .o 82 (.mov (.t 9)),
 .o 83 (.indexA 6 (.t 81) (.t 82)),
 .o 84 (.fieldA 1 (.t 83)),
 .o 85 (.load 1 false (.t 84)),
 .o 86 (.bin .and (.t 85) (.c (.int .i64 1))),
 .o 87 (.bin .eql (.t 86) (.c (.int .i64 0)))])
 (.keep [0, 1, 6, 8, 9, 87] (.cond (.t 87)
 (.reg [.o 8 (.mov (.c (.str [])))])
 (.skip))))
 (.exit 1))))))
 (.skip))))
 (.keep [0, 1, 6, 8, 9] (.seq (.reg [.o 88 (.mov (.t 6)),
 .o 89 (.mov (.t 0)),
 .o 90 (.mov (.t 9)),
 .o 91 (.indexA 6 (.t 89) (.t 90)),
 .o 92 (.fieldA 4 (.t 91)),
 .o 93 (.load 1 false (.t 92)),
 .o 94 (.callF F_world_Kernel_Write [(.t 88), (.c (.str [97])), (.t 93)]),
 .o 12 (.mov (.t 94))])
 (.keep [0, 1, 6, 8, 9, 12] (.seq (.reg [.o 95 (.mov (.t 12)),
 .o 96 (.eq false .ifc (.t 95) (.c (.nilI)))])
 (.keep [0, 1, 6, 8, 9, 96] (.cond (.t 96)
 (.reg [.o 97 (.mov (.t 8)),
 .o 98 (.mov (.t 0)),
 .o 99 (.mov (.t 9)),
 .o 100 (.indexA 6 (.t 98) (.t 99)),
 .o 101 (.fieldA 4 (.t 100)),
 .o 102 (.load 1 false (.t 101)),
 .o 103 (.bin .add (.t 97) (.t 102)),
 .o 8 (.mov (.t 103))])
 (.skip)))))))))))
 (.keep [0, 1, 6, 8, 9] (.reg [.o 52 (.mov (.t 9)),
 .o 53 (.bin .add (.t 52) (.c (.int .i64 1))),
 .o 9 (.mov (.t 53))])))))
def c_patoislaw4_KernelFiles : ACode :=
 .seq (.reg [.o 4 (.mov (.c (.bool false)))])
 (.keep [0, 1] (.seq (.reg [.o 17 (.callF F_patoislaw4_first []),
 .o 5 (.mov (.t 17))])
 (.keep [0, 1, 5] (.seq (.seq (.reg [.o 18 (.mov (.t 0)),
 .o 19 (.len false (.t 18)),
 .o 20 (.bin .gtr (.t 19) (.c (.int .i64 40))),
 .o 21 (.mov (.t 20)),
 .g (some 22) 21 false (.mov (.t 1)),
 .g (some 23) 21 false (.len true (.t 22)),
 .g (some 24) 21 false (.bin .gtr (.t 23) (.c (.int .i64 1000))),
 .o 25 (.pick (.t 21) (.c (.bool true)) (.t 24)),
 .o 26 (.mov (.t 25)),
 .g (some 27) 26 false (.mov (.t 5)),
 .g (some 28) 26 false (.not (.t 27)),
 .o 29 (.pick (.t 26) (.c (.bool true)) (.t 28))])
 (.keep [0, 1, 5, 29] (.cond (.t 29)
 (.seq (.reg [.o 30 (.mov (.t 5)),
 .o 4 (.mov (.t 30))])
 (.ret))
 (.skip))))
 (.keep [0, 1] (.seq (.reg [.o 32 (.mov (.t 1)),
 .o 33 (.build [.str [], .str []] [(0, 1, (.c (.str [97]))), (1, 1, (.t 32))]),
 .o 34 (.mov (.t 1)),
 .o 35 (.build [.str [], .str []] [(0, 1, (.c (.str [98]))), (1, 1, (.t 34))]),
 .o 36 (.bslice false 2 2 [.str [], .str [], .str [], .str []] [(0, 2, (.t 33)), (2, 2, (.t 35))]),
 .o 37 (.build [.sl none 2 0 (some 0), .sl none 7 0 (some 0)] [(0, 1, (.t 36))]),
 .o 38 (.callF F_world_New [(.t 37)]),
 .o 31 (.mov (.t 38)),
 .o 39 (.extract (.t 31) 0),
 .o 40 (.extract (.t 31) 1),
 .o 6 (.mov (.t 39)),
 .o 7 (.mov (.t 40))])
 (.keep [0, 1, 6, 7] (.seq (.seq (.reg [.o 41 (.mov (.t 6)),
 .o 42 (.eq false .ptr (.t 41) (.c (.ptr none))),
 .o 43 (.mov (.t 42)),
 .g (some 44) 43 false (.mov (.t 7)),
 .g (some 45) 43 false (.eq true .ifc (.t 44) (.c (.nilI))),
 .o 46 (.pick (.t 43) (.c (.bool true)) (.t 45))])
 (.keep [0, 1, 6, 46] (.cond (.t 46)
 (.seq (.reg [.o 4 (.mov (.c (.bool false)))])
 (.ret))
 (.skip))))
 (.keep [0, 1, 6] (.seq (.reg [.o 47 (.mov (.t 1)),
 .o 8 (.mov (.t 47))])
 (.keep [0, 1, 6, 8] (.seq (.seq (.reg [.o 9 (.mov (.c (.int .i64 0)))])
 (.keep [0, 1, 6, 8, 9] (.block 0 (.loop c_patoislaw4_KernelFiles_l0))))
 (.keep [1, 6, 8] (.seq (.reg [.o 105 (.mov (.t 6)),
 .o 106 (.callF F_world_Kernel_Open [(.t 105), (.c (.str [97])), (.c (.int .i64 1))]),
 .o 104 (.mov (.t 106)),
 .o 107 (.extract (.t 104) 0),
 .o 108 (.extract (.t 104) 1),
 .o 13 (.mov (.t 107)),
 .o 14 (.mov (.t 108))])
 (.keep [1, 6, 8, 13, 14] (.seq (.reg [.o 110 (.mov (.t 6)),
 .o 111 (.callF F_world_Kernel_Open [(.t 110), (.c (.str [98])), (.c (.int .i64 1))]),
 .o 109 (.mov (.t 111)),
 .o 112 (.extract (.t 109) 0),
 .o 113 (.extract (.t 109) 1),
 .o 15 (.mov (.t 112)),
 .o 16 (.mov (.t 113))])
 (.keep [1, 6, 8, 13, 14, 15, 16] (.seq (.reg [.o 114 (.mov (.t 14)),
 .o 115 (.mov (.t 114)),
 .g (some 116) 115 true (.mov (.t 16)),
 .o 117 (.pick (.t 115) (.t 116) (.c (.bool false))),
 .o 118 (.mov (.t 117)),
 .g (some 119) 118 true (.mov (.t 13)),
 .g (some 120) 118 true (.mov (.t 8)),
 .g (some 121) 118 true (.bin .eql (.t 119) (.t 120)),
 .o 122 (.pick (.t 118) (.t 121) (.c (.bool false))),
 .o 123 (.mov (.t 122)),
 .g (some 124) 123 true (.mov (.t 15)),
 .g (some 125) 123 true (.mov (.t 1)),
 .g (some 126) 123 true (.bin .eql (.t 124) (.t 125)),
 .o 127 (.pick (.t 123) (.t 126) (.c (.bool false))),
 .o 128 (.mov (.t 127)),
 .g (some 129) 128 true (.mov (.t 6)),
 .g (some 130) 128 true (.callF F_world_Kernel_Names [(.t 129)]),
 .g (some 131) 128 true (.len false (.t 130)),
 .g (some 132) 128 true (.bin .eql (.t 131) (.c (.int .i64 2))),
 .o 133 (.pick (.t 128) (.t 132) (.c (.bool false))),
 .o 4 (.mov (.t 133))])
 (.ret)))))))))))))))))))
def a_patoislaw4_KernelFiles : AFun := ⟨2, c_patoislaw4_KernelFiles, [.tmp 4]⟩

/- patois/patoislaw4.KernelOwn -/
def c_patoislaw4_KernelOwn_l0 : ACode :=
 .keep [0, 1, 6] (.seq (.seq (.reg [.o 43 (.mov (.t 6)),
 .o 44 (.mov (.t 1)),
 .o 45 (.len false (.t 44)),
 .o 46 (.bin .lss (.t 43) (.t 45))])
 (.keep [0, 1, 6, 46] (.cond (.t 46)
 (.skip)
 (.exit 0))))
 (.keep [0, 1, 6] (.seq (.block 1 (.seq (.reg [.o 49 (.mov (.t 1)),
 .o 50 (.mov (.t 6)),
 .o 51 (.indexA 1 (.t 49) (.t 50)),
 .o 52 (.load 1 false (.t 51)),
 .o 53 (.len true (.t 52)),
 .o 54 (.bin .gtr (.t 53) (.c (.int .i64 100)))])
 (.keep [0, 1, 6, 54] (.cond (.t 54)
 (.seq (.reg [.o 4 (.mov (.c (.bool true)))])
 (.ret))
 (.skip)))))
 (.keep [0, 1, 6] (.reg [.o 47 (.mov (.t 6)),
 .o 48 (.bin .add (.t 47) (.c (.int .i64 1))),
 .o 6 (.mov (.t 48))])))))
def c_patoislaw4_KernelOwn : ACode :=
 .seq (.reg [.o 4 (.mov (.c (.bool false)))])
 (.keep [0, 1] (.seq (.reg [.o 20 (.callF F_patoislaw4_first []),
 .o 5 (.mov (.t 20))])
 (.keep [0, 1, 5] (.seq (.seq (.reg [.o 21 (.mov (.t 1)),
 .o 22 (.len false (.t 21)),
 .o 23 (.bin .gtr (.t 22) (.c (.int .i64 20))),
 .o 24 (.mov (.t 23)),
 .g (some 25) 24 false (.mov (.t 1)),
 .g (some 26) 24 false (.len false (.t 25)),
 .g (some 27) 24 false (.bin .eql (.t 26) (.c (.int .i64 0))),
 .o 28 (.pick (.t 24) (.c (.bool true)) (.t 27)),
 .o 29 (.mov (.t 28)),
 .g (some 30) 29 false (.mov (.t 0)),
 .g (some 31) 29 false (.bin .eql (.t 30) (.c (.str []))),
 .o 32 (.pick (.t 29) (.c (.bool true)) (.t 31)),
 .o 33 (.mov (.t 32)),
 .g (some 34) 33 false (.mov (.t 0)),
 .g (some 35) 33 false (.len true (.t 34)),
 .g (some 36) 33 false (.bin .gtr (.t 35) (.c (.int .i64 100))),
 .o 37 (.pick (.t 33) (.c (.bool true)) (.t 36)),
 .o 38 (.mov (.t 37)),
 .g (some 39) 38 false (.mov (.t 5)),
 .g (some 40) 38 false (.not (.t 39)),
 .o 41 (.pick (.t 38) (.c (.bool true)) (.t 40))])
 (.keep [0, 1, 5, 41] (.cond (.t 41)
 (.seq (.reg [.o 42 (.mov (.t 5)),
 .o 4 (.mov (.t 42))])
 (.ret))
 (.skip))))
 (.keep [0, 1] (.seq (.seq (.reg [.o 6 (.mov (.c (.int .i64 0)))])
 (.keep [0, 1, 6] (.block 0 (.loop c_patoislaw4_KernelOwn_l0))))
 (.keep [0, 1] (.seq (.reg [.o 55 (.mov (.t 1)),
 .o 56 (.callF F_patoisref_Texts [(.t 55)]),
 .o 7 (.mov (.t 56))])
 (.keep [0, 1, 7] (.seq (.reg [.o 57 (.mov (.t 0)),
 .o 58 (.mov (.t 7)),
 .o 59 (.build [.str [], .sl none 1 0 (some 0), .bool false, .bool false, .bool false, .str [], .int .i64 0] [(0, 1, (.t 57)), (1, 1, (.t 58)), (5, 1, (.c (.str [111]))), (6, 1, (.c (.int .i64 3)))]),
 .o 60 (.bslice false 7 1 [.str [], .sl none 1 0 (some 0), .bool false, .bool false, .bool false, .str [], .int .i64 0] [(0, 7, (.t 59))]),
 .o 8 (.mov (.t 60))])
 (.keep [0, 1, 7, 8] (.seq (.reg [.o 61 (.build [.str [], .str []] [(0, 1, (.c (.str [102]))), (1, 1, (.c (.str [100])))]),
 .o 62 (.bslice false 2 1 [.str [], .str []] [(0, 2, (.t 61))]),
 .o 9 (.mov (.t 62))])
 (.keep [0, 1, 7, 8, 9] (.seq (.reg [.o 64 (.mov (.t 9)),
 .o 65 (.mov (.t 8)),
 .o 66 (.build [.sl none 2 0 (some 0), .sl none 7 0 (some 0)] [(0, 1, (.t 64)), (1, 1, (.t 65))]),
 .o 67 (.callF F_world_New [(.t 66)]),
 .o 63 (.mov (.t 67)),
 .o 68 (.extract (.t 63) 0),
 .o 69 (.extract (.t 63) 1),
 .o 10 (.mov (.t 68)),
 .o 11 (.mov (.t 69))])
 (.keep [0, 1, 7, 8, 9, 10, 11] (.seq (.seq (.reg [.o 70 (.mov (.t 10)),
 .o 71 (.eq false .ptr (.t 70) (.c (.ptr none))),
 .o 72 (.mov (.t 71)),
 .g (some 73) 72 false (.mov (.t 11)),
 .g (some 74) 72 false (.eq true .ifc (.t 73) (.c (.nilI))),
 .o 75 (.pick (.t 72) (.c (.bool true)) (.t 74))])
 (.keep [0, 1, 7, 8, 9, 10, 75] (.cond (.t 75)
 (.seq (.reg [.o 4 (.mov (.c (.bool false)))])
 (.ret))
 (.skip))))
 (.keep [0, 1, 7, 8, 9, 10] (.seq (.reg [.o 76 (.mov (.t 7)),
 .o 77 (.mov (.t 7)),
 .o 78 (.indexA 1 (.t 77) (.c (.int .i64 0))),
 .o 79 (.load 1 false (.t 78)),
 .o 80 (.bin .add (.t 79) (.c (.str [120]))),
 .o 81 (.indexA 1 (.t 76) (.c (.int .i64 0))),
 .n (.store 1 (.t 81) (.t 80))])
 (.keep [0, 1, 8, 9, 10] (.seq (.reg [.o 82 (.mov (.t 8)),
 .o 83 (.indexA 7 (.t 82) (.c (.int .i64 0))),
 .o 84 (.fieldA 5 (.t 83)),
 .n (.store 1 (.t 84) (.c (.str [112])))])
 (.keep [0, 1, 9, 10] (.seq (.reg [.o 85 (.mov (.t 9)),
 .o 86 (.indexA 2 (.t 85) (.c (.int .i64 0))),
 .o 87 (.fieldA 1 (.t 86)),
 .n (.store 1 (.t 87) (.c (.str [113])))])
 (.keep [0, 1, 10] (.seq (.reg [.o 88 (.mov (.t 1)),
 .o 89 (.callF F_patoisref_Texts [(.t 88)]),
 .o 12 (.mov (.t 89))])
 (.keep [0, 1, 10, 12] (.seq (.reg [.o 91 (.mov (.t 10)),
 .o 92 (.mov (.t 0)),
 .o 93 (.mov (.t 12)),
 .o 94 (.callF F_world_Kernel_Exec [(.t 91), (.t 92), (.c (.str [])), (.t 93)]),
 .o 90 (.mov (.t 94)),
 .o 95 (.extract (.t 90) 0),
 .o 96 (.extract (.t 90) 1),
 .o 97 (.extract (.t 90) 2),
 .o 13 (.mov (.t 95)),
 .o 14 (.mov (.t 96)),
 .o 15 (.mov (.t 97))])
 (.keep [0, 1, 10, 12, 13, 14, 15] (.seq (.reg [.o 98 (.mov (.t 12)),
 .o 99 (.indexA 1 (.t 98) (.c (.int .i64 0))),
 .n (.store 1 (.t 99) (.c (.str [115, 112, 111, 105, 108, 116])))])
 (.keep [0, 1, 10, 13, 14, 15] (.seq (.reg [.o 100 (.mov (.t 10)),
 .o 101 (.nilchk (.t 100)),
 .o 102 (.fieldA 0 (.t 101)),
 .o 103 (.callF F_world_asked_Trace [(.t 102)]),
 .o 16 (.mov (.t 103))])
 (.keep [0, 1, 10, 13, 14, 15, 16] (.seq (.seq (.reg [.o 104 (.mov (.t 16)),
 .o 105 (.len false (.t 104)),
 .o 106 (.bin .neq (.t 105) (.c (.int .i64 1))),
 .o 107 (.mov (.t 106)),
 .g (some 108) 107 false (.mov (.t 16)),
 .g (some 109) 107 false (.indexA 5 (.t 108) (.c (.int .i64 0))),
 .g (some 110) 107 false (.fieldA 4 (.t 109)),
 .g (some 111) 107 false (.load 1 false (.t 110)),
 .g (some 112) 107 false (.len false (.t 111)),
 .g (some 113) 107 false (.mov (.t 1)),
 .g (some 114) 107 false (.len false (.t 113)),
 .g (some 115) 107 false (.bin .neq (.t 112) (.t 114)),
 .o 116 (.pick (.t 107) (.c (.bool true)) (.t 115))])
 (.keep [0, 1, 10, 13, 14, 15, 16, 116] (.cond (.t 116)
 (.seq (.reg [.o 4 (.mov (.c (.bool false)))])
 (.ret))
 (.skip))))
 (.keep [0, 1, 10, 13, 14, 15, 16] (.seq (.reg [.o 117 (.mov (.t 16)),
 .o 118 (.indexA 5 (.t 117) (.c (.int .i64 0))),
 .o 119 (.fieldA 4 (.t 118)),
 .o 120 (.load 1 false (.t 119)),
 .o 121 (.indexA 1 (.t 120) (.c (.int .i64 0))),
 .n (.store 1 (.t 121) (.c (.str [115, 112, 111, 105, 108, 116])))])
 (.keep [0, 1, 10, 13, 14, 15, 16] (.seq (.reg [.o 122 (.mov (.t 16)),
 .o 123 (.indexA 5 (.t 122) (.c (.int .i64 0))),
 .o 124 (.fieldA 2 (.t 123)),
 .n (.store 1 (.t 124) (.c (.str [115, 112, 111, 105, 108, 116])))])
 (.keep [0, 1, 10, 13, 14, 15] (.seq (.reg [.o 125 (.mov (.t 10)),
 .o 126 (.callF F_world_Kernel_Files [(.t 125)]),
 .o 17 (.mov (.t 126))])
 (.keep [0, 1, 10, 13, 14, 15, 17] (.seq (.seq (.reg [.o 127 (.mov (.t 17)),
 .o 128 (.len false (.t 127)),
 .o 129 (.bin .neq (.t 128) (.c (.int .i64 1)))])
 (.keep [0, 1, 10, 13, 14, 15, 17, 129] (.cond (.t 129)
 (.seq (.reg [.o 4 (.mov (.c (.bool false)))])
 (.ret))
 (.skip))))
 (.keep [0, 1, 10, 13, 14, 15, 17] (.seq (.reg [.o 130 (.mov (.t 17)),
 .o 131 (.indexA 2 (.t 130) (.c (.int .i64 0))),
 .o 132 (.fieldA 1 (.t 131)),
 .n (.store 1 (.t 132) (.c (.str [115, 112, 111, 105, 108, 116])))])
 (.keep [0, 1, 10, 13, 14, 15] (.seq (.reg [.o 133 (.mov (.t 10)),
 .o 134 (.nilchk (.t 133)),
 .o 135 (.fieldA 0 (.t 134)),
 .o 136 (.callF F_world_asked_Trace [(.t 135)]),
 .o 18 (.mov (.t 136))])
 (.keep [0, 1, 10, 13, 14, 15, 18] (.seq (.reg [.o 137 (.mov (.t 10)),
 .o 138 (.callF F_world_Kernel_Files [(.t 137)]),
 .o 19 (.mov (.t 138))])
 (.keep [0, 1, 13, 14, 15, 18, 19] (.seq (.seq (.reg [.o 139 (.mov (.t 18)),
 .o 140 (.len false (.t 139)),
 .o 141 (.bin .neq (.t 140) (.c (.int .i64 1))),
 .o 142 (.mov (.t 141)),
 .g (some 143) 142 false (.mov (.t 19)),
 .g (some 144) 142 false (.len false (.t 143)),
 .g (some 145) 142 false (.bin .neq (.t 144) (.c (.int .i64 1))),
 .o 146 (.pick (.t 142) (.c (.bool true)) (.t 145))])
 (.keep [0, 1, 13, 14, 15, 18, 19, 146] (.cond (.t 146)
 (.seq (.reg [.o 4 (.mov (.c (.bool false)))])
 (.ret))
 (.skip))))
 (.keep [0, 1, 13, 14, 15, 18, 19] (.seq (.reg [.o 147 (.mov (.t 13)),
 .o 148 (.bin .eql (.t 147) (.c (.str [111]))),
 .o 149 (.mov (.t 148)),
 .g (some 150) 149 true (.mov (.t 14)),
 .g (some 151) 149 true (.bin .eql (.t 150) (.c (.int .i64 3))),
 .o 152 (.pick (.t 149) (.t 151) (.c (.bool false))),
 .o 153 (.mov (.t 152)),
 .g (some 154) 153 true (.mov (.t 15)),
 .o 155 (.pick (.t 153) (.t 154) (.c (.bool false))),
 .o 156 (.mov (.t 155)),
 .g (some 157) 156 true (.mov (.t 18)),
 .g (some 158) 156 true (.indexA 5 (.t 157) (.c (.int .i64 0))),
 .g (some 159) 156 true (.fieldA 4 (.t 158)),
 .g (some 160) 156 true (.load 1 false (.t 159)),
 .g (some 161) 156 true (.mov (.t 1)),
 .g (some 162) 156 true (.callF F_patoisref_SameTexts [(.t 160), (.t 161)]),
 .o 163 (.pick (.t 156) (.t 162) (.c (.bool false))),
 .o 164 (.mov (.t 163)),
 .g (some 165) 164 true (.mov (.t 18)),
 .g (some 166) 164 true (.indexA 5 (.t 165) (.c (.int .i64 0))),
 .g (some 167) 164 true (.fieldA 2 (.t 166)),
 .g (some 168) 164 true (.load 1 false (.t 167)),
 .g (some 169) 164 true (.mov (.t 0)),
 .g (some 170) 164 true (.bin .eql (.t 168) (.t 169)),
 .o 171 (.pick (.t 164) (.t 170) (.c (.bool false))),
 .o 172 (.mov (.t 171)),
 .g (some 173) 172 true (.mov (.t 19)),
 .g (some 174) 172 true (.indexA 2 (.t 173) (.c (.int .i64 0))),
 .g (some 175) 172 true (.fieldA 1 (.t 174)),
 .g (some 176) 172 true (.load 1 false (.t 175)),
 .g (some 177) 172 true (.bin .eql (.t 176) (.c (.str [100]))),
 .o 178 (.pick (.t 172) (.t 177) (.c (.bool false))),
 .o 4 (.mov (.t 178))])
 (.ret)))))))))))))))))))))))))))))))))))))))))))))))))))
def a_patoislaw4_KernelOwn : AFun := ⟨2, c_patoislaw4_KernelOwn, [.tmp 4]⟩

/- patois/patoislaw4.KernelRows -/
def c_patoislaw4_KernelRows_l0 : ACode :=
 .keep [0, 1, 2, 3, 10] (.seq (.seq (.reg [.o 43 (.mov (.t 10)),
 .o 44 (.mov (.t 1)),
 .o 45 (.len false (.t 44)),
 .o 46 (.bin .lss (.t 43) (.t 45))])
 (.keep [0, 1, 2, 3, 10, 46] (.cond (.t 46)
 (.skip)
 (.exit 0))))
 (.keep [0, 1, 2, 3, 10] (.seq (.block 1 (.seq (.reg [.o 49 (.mov (.t 1)),
 .o 50 (.mov (.t 10)),
 .o 51 (.indexA 1 (.t 49) (.t 50)),
 .o 52 (.load 1 false (.t 51)),
 .o 53 (.len true (.t 52)),
 .o 54 (.bin .gtr (.t 53) (.c (.int .i64 100)))])
 (.keep [0, 1, 2, 3, 10, 54] (.cond (.t 54)
 (.seq (.reg [.o 8 (.mov (.c (.bool true)))])
 (.ret))
 (.skip)))))
 (.keep [0, 1, 2, 3, 10] (.reg [.o 47 (.mov (.t 10)),
 .o 48 (.bin .add (.t 47) (.c (.int .i64 1))),
 .o 10 (.mov (.t 48))])))))
def c_patoislaw4_KernelRows_l1 : ACode :=
 .keep [0, 1, 2, 3, 11, 12, 13] (.seq (.seq (.reg [.o 55 (.mov (.t 13)),
 .o 56 (.mov (.t 0)),
 .o 57 (.len false (.t 56)),
 .o 58 (.bin .lss (.t 55) (.t 57))])
 (.keep [0, 1, 2, 3, 11, 12, 13, 58] (.cond (.t 58)
 (.skip)
 (.exit 2))))
 (.keep [0, 1, 2, 3, 11, 12, 13] (.seq (.block 3 (.seq (.seq (.reg [.o 61 (.mov (.t 0)),
 .o 62 (.mov (.t 13)),
 .o 63 (.indexA 1 (.t 61) (.t 62)),
 .o 64 (.load 1 false (.t 63)),
 .o 65 (.len true (.t 64)),
 .o 66 (.bin .gtr (.t 65) (.c (.int .i64 300)))])
 (.keep [0, 1, 2, 3, 11, 12, 13, 66] (.cond (.t 66)
 (.seq (.reg [.o 8 (.mov (.c (.bool true)))])
 (.ret))
 (.skip))))
 (.keep [0, 1, 2, 3, 11, 12, 13] (.seq (.reg [.o 67 (.mov (.t 2)),
 .o 68 (.mov (.t 13)),
 .o 69 (.conv .u64 (.t 68)),
 .o 70 (.bin .shr (.t 67) (.t 69)),
 .o 71 (.bin .and (.t 70) (.c (.int .i64 1))),
 .o 72 (.bin .eql (.t 71) (.c (.int .i64 1))),
 .o 73 (.mov (.t 13)),
 .o 74 (.bin .rem (.t 73) (.c (.int .i64 2))),
 .o 75 (.bin .eql (.t 74) (.c (.int .i64 0))),
 .o 76 (.mov (.t 13)),
 .o 77 (.bin .rem (.t 76) (.c (.int .i64 3))),
 .o 78 (.bin .eql (.t 77) (.c (.int .i64 0))),
 .o 79 (.mov (.t 0)),
 .o 80 (.mov (.t 13)),
 .o 81 (.indexA 1 (.t 79) (.t 80)),
 .o 82 (.load 1 false (.t 81)),
 .o 83 (.mov (.t 13)),
 .o 84 (.build [.str [], .sl none 1 0 (some 0), .bool false, .bool false, .bool false, .str [], .int .i64 0] [(0, 1, (.c (.str [99]))), (2, 1, (.t 72)), (3, 1, (.t 75)), (4, 1, (.t 78)), (5, 1, (.t 82)), (6, 1, (.t 83))]),
 .o 14 (.alloc [.str [], .sl none 1 0 (some 0), .bool false, .bool false, .bool false, .str [], .int .i64 0]),
 .n (.store 7 (.t 14) (.t 84))])
 (.keep [0, 1, 2, 3, 11, 12, 13, 14] (.seq (.seq (.reg [.o 85 (.mov (.t 2)),
 .o 86 (.mov (.t 13)),
 .o 87 (.bin .add (.t 86) (.c (.int .i64 8))),
 .o 88 (.conv .u64 (.t 87)),
 .o 89 (.bin .shr (.t 85) (.t 88)),
 .o 90 (.bin .and (.t 89) (.c (.int .i64 1))),
 .o 91 (.bin .eql (.t 90) (.c (.int .i64 1)))])
 (.keep [0, 1, 2, 3, 11, 12, 13, 14, 91] (.cond (.t 91)
 (.reg [.o 92 (.mov (.t 1)),
 .o 93 (.fieldA 1 (.t 14)),
 .n (.store 1 (.t 93) (.t 92))])
 (.reg [.o 94 (.bslice false 1 6 [.str [], .str [], .str [], .str [], .str [], .str []] [(0, 1, (.c (.str [111, 116, 104, 101, 114]))), (1, 1, (.c (.str [97, 114, 103, 115]))), (2, 1, (.c (.str [116, 104, 97, 116]))), (3, 1, (.c (.str [110, 111, 98, 111, 100, 121]))), (4, 1, (.c (.str [104, 97, 110, 100, 115]))), (5, 1, (.c (.str [105, 110])))]),
 .o 95 (.fieldA 1 (.t 14)),
 .n (.store 1 (.t 95) (.t 94))]))))
 (.keep [0, 1, 2, 3, 11, 12, 13, 14] (.seq (.seq (.reg [.o 96 (.mov (.t 12)),
 .o 97 (.bin .lss (.t 96) (.c (.int .i64 0))),
 .o 98 (.mov (.t 97)),
 .g (some 99) 98 true (.fieldA 2 (.t 14)),
 .g (some 100) 98 true (.load 1 false (.t 99)),
 .g (some 101) 98 true (.mov (.t 100)),
 .g (some 102) 101 false (.mov (.t 2)),
 .g (some 103) 101 false (.mov (.t 13)),
 .g (some 104) 101 false (.bin .add (.t 103) (.c (.int .i64 8))),
 .g (some 105) 101 false (.conv .u64 (.t 104)),
 .g (some 106) 101 false (.bin .shr (.t 102) (.t 105)),
 .g (some 107) 101 false (.bin .and (.t 106) (.c (.int .i64 1))),
 .g (some 108) 101 false (.bin .eql (.t 107) (.c (.int .i64 1))),
 .g (some 109) 98 true (.pick (.t 101) (.c (.bool true)) (.t 108)),
 .o 110 (.pick (.t 98) (.t 109) (.c (.bool false)))])
 (.keep [0, 1, 2, 3, 11, 12, 13, 14, 110] (.cond (.t 110)
 (.reg [.o 111 (.mov (.t 13)),
 .o 12 (.mov (.t 111))])
 (.skip))))
 (.keep [0, 1, 2, 3, 11, 12, 13, 14] (.reg [.o 112 (.fieldA 1 (.t 11)),
 .o 113 (.load 1 false (.t 112)),
 .o 114 (.load 7 true (.t 14)),
 .o 115 (.bslice false 7 1 [.str [], .sl none 1 0 (some 0), .bool false, .bool false, .bool false, .str [], .int .i64 0] [(0, 7, (.t 114))]),
 .o 116 (.append true 7 72 (.t 113) (.t 115)),
 .o 117 (.fieldA 1 (.t 11)),
 .n (.store 1 (.t 117) (.t 116))]))))))))))
 (.keep [0, 1, 2, 3, 11, 12, 13] (.reg [.o 59 (.mov (.t 13)),
 .o 60 (.bin .add (.t 59) (.c (.int .i64 1))),
 .o 13 (.mov (.t 60))])))))
def c_patoislaw4_KernelRows : ACode :=
 .seq (.reg [.o 8 (.mov (.c (.bool false)))])
 (.keep [0, 1, 2, 3] (.seq (.reg [.o 24 (.callF F_patoislaw4_first []),
 .o 9 (.mov (.t 24))])
 (.keep [0, 1, 2, 3, 9] (.seq (.seq (.reg [.o 25 (.mov (.t 0)),
 .o 26 (.len false (.t 25)),
 .o 27 (.bin .gtr (.t 26) (.c (.int .i64 8))),
 .o 28 (.mov (.t 27)),
 .g (some 29) 28 false (.mov (.t 1)),
 .g (some 30) 28 false (.len false (.t 29)),
 .g (some 31) 28 false (.bin .gtr (.t 30) (.c (.int .i64 5))),
 .o 32 (.pick (.t 28) (.c (.bool true)) (.t 31)),
 .o 33 (.mov (.t 32)),
 .g (some 34) 33 false (.mov (.t 3)),
 .g (some 35) 33 false (.len true (.t 34)),
 .g (some 36) 33 false (.bin .gtr (.t 35) (.c (.int .i64 300))),
 .o 37 (.pick (.t 33) (.c (.bool true)) (.t 36)),
 .o 38 (.mov (.t 37)),
 .g (some 39) 38 false (.mov (.t 9)),
 .g (some 40) 38 false (.not (.t 39)),
 .o 41 (.pick (.t 38) (.c (.bool true)) (.t 40))])
 (.keep [0, 1, 2, 3, 9, 41] (.cond (.t 41)
 (.seq (.reg [.o 42 (.mov (.t 9)),
 .o 8 (.mov (.t 42))])
 (.ret))
 (.skip))))
 (.keep [0, 1, 2, 3] (.seq (.seq (.reg [.o 10 (.mov (.c (.int .i64 0)))])
 (.keep [0, 1, 2, 3, 10] (.block 0 (.loop c_patoislaw4_KernelRows_l0))))
 (.keep [0, 1, 2, 3] (.seq (.reg [.o 11 (.alloc [.sl none 2 0 (some 0), .sl none 7 0 (some 0)])])
 (.keep [0, 1, 2, 3, 11] (.seq (.reg [.o 12 (.mov (.c (.int .i64 (-1))))])
 (.keep [0, 1, 2, 3, 11, 12] (.seq (.seq (.reg [.o 13 (.mov (.c (.int .i64 0)))])
 (.keep [0, 1, 2, 3, 11, 12, 13] (.block 2 (.loop c_patoislaw4_KernelRows_l1))))
 (.keep [0, 1, 3, 11, 12] (.seq (.reg [.o 119 (.load 2 true (.t 11)),
 .o 120 (.callF F_world_New [(.t 119)]),
 .o 118 (.mov (.t 120)),
 .o 121 (.extract (.t 118) 0),
 .o 122 (.extract (.t 118) 1),
 .o 15 (.mov (.t 121)),
 .o 16 (.mov (.t 122))])
 (.keep [0, 1, 3, 12, 15, 16] (.seq (.seq (.reg [.o 123 (.mov (.t 15)),
 .o 124 (.eq false .ptr (.t 123) (.c (.ptr none))),
 .o 125 (.mov (.t 124)),
 .g (some 126) 125 false (.mov (.t 16)),
 .g (some 127) 125 false (.eq true .ifc (.t 126) (.c (.nilI))),
 .o 128 (.pick (.t 125) (.c (.bool true)) (.t 127))])
 (.keep [0, 1, 3, 12, 15, 128] (.cond (.t 128)
 (.seq (.reg [.o 8 (.mov (.c (.bool false)))])
 (.ret))
 (.skip))))
 (.keep [0, 1, 3, 12, 15] (.seq (.reg [.o 129 (.mov (.t 15)),
 .o 130 (.mov (.t 1)),
 .o 131 (.callF F_world_Kernel_Reads [(.t 129), (.c (.str [99])), (.t 130)]),
 .o 17 (.mov (.t 131))])
 (.keep [0, 1, 3, 12, 15, 17] (.seq (.reg [.o 133 (.mov (.t 15)),
 .o 134 (.mov (.t 3)),
 .o 135 (.mov (.t 1)),
 .o 136 (.callF F_world_Kernel_Exec [(.t 133), (.c (.str [99])), (.t 134), (.t 135)]),
 .o 132 (.mov (.t 136)),
 .o 137 (.extract (.t 132) 0),
 .o 138 (.extract (.t 132) 1),
 .o 139 (.extract (.t 132) 2),
 .o 18 (.mov (.t 137)),
 .o 19 (.mov (.t 138)),
 .o 20 (.mov (.t 139))])
 (.keep [0, 1, 3, 12, 15, 17, 18, 19, 20] (.seq (.reg [.o 140 (.mov (.t 15)),
 .o 141 (.nilchk (.t 140)),
 .o 142 (.fieldA 0 (.t 141)),
 .o 143 (.callF F_world_asked_Trace [(.t 142)]),
 .o 21 (.mov (.t 143))])
 (.keep [0, 1, 3, 12, 17, 18, 19, 20, 21] (.seq (.seq (.reg [.o 144 (.mov (.t 21)),
 .o 145 (.len false (.t 144)),
 .o 146 (.bin .neq (.t 145) (.c (.int .i64 1))),
 .o 147 (.mov (.t 146)),
 .g (some 148) 147 false (.mov (.t 21)),
 .g (some 149) 147 false (.indexA 5 (.t 148) (.c (.int .i64 0))),
 .g (some 150) 147 false (.fieldA 4 (.t 149)),
 .g (some 151) 147 false (.load 1 false (.t 150)),
 .g (some 152) 147 false (.mov (.t 1)),
 .g (some 153) 147 false (.callF F_patoisref_SameTexts [(.t 151), (.t 152)]),
 .g (some 154) 147 false (.not (.t 153)),
 .o 155 (.pick (.t 147) (.c (.bool true)) (.t 154)),
 .o 156 (.mov (.t 155)),
 .g (some 157) 156 false (.mov (.t 21)),
 .g (some 158) 156 false (.indexA 5 (.t 157) (.c (.int .i64 0))),
 .g (some 159) 156 false (.fieldA 2 (.t 158)),
 .g (some 160) 156 false (.load 1 false (.t 159)),
 .g (some 161) 156 false (.bin .neq (.t 160) (.c (.str [99]))),
 .o 162 (.pick (.t 156) (.c (.bool true)) (.t 161)),
 .o 163 (.mov (.t 162)),
 .g (some 164) 163 false (.mov (.t 21)),
 .g (some 165) 163 false (.indexA 5 (.t 164) (.c (.int .i64 0))),
 .g (some 166) 163 false (.fieldA 0 (.t 165)),
 .g (some 167) 163 false (.load 1 false (.t 166)),
 .g (some 168) 163 false (.bin .neq (.t 167) (.c (.int .i64 1))),
 .o 169 (.pick (.t 163) (.c (.bool true)) (.t 168))])
 (.keep [0, 3, 12, 17, 18, 19, 20, 21, 169] (.cond (.t 169)
 (.seq (.reg [.o 8 (.mov (.c (.bool false)))])
 (.ret))
 (.skip))))
 (.keep [0, 3, 12, 17, 18, 19, 20, 21] (.seq (.seq (.reg [.o 170 (.mov (.t 12)),
 .o 171 (.bin .lss (.t 170) (.c (.int .i64 0)))])
 (.keep [0, 3, 12, 17, 18, 19, 20, 21, 171] (.cond (.t 171)
 (.seq (.reg [.o 172 (.mov (.t 20)),
 .o 173 (.not (.t 172)),
 .o 174 (.mov (.t 173)),
 .g (some 175) 174 true (.mov (.t 17)),
 .g (some 176) 174 true (.not (.t 175)),
 .o 177 (.pick (.t 174) (.t 176) (.c (.bool false))),
 .o 178 (.mov (.t 177)),
 .g (some 179) 178 true (.mov (.t 18)),
 .g (some 180) 178 true (.bin .eql (.t 179) (.c (.str []))),
 .o 181 (.pick (.t 178) (.t 180) (.c (.bool false))),
 .o 182 (.mov (.t 181)),
 .g (some 183) 182 true (.mov (.t 19)),
 .g (some 184) 182 true (.bin .eql (.t 183) (.c (.int .i64 127))),
 .o 185 (.pick (.t 182) (.t 184) (.c (.bool false))),
 .o 186 (.mov (.t 185)),
 .g (some 187) 186 true (.mov (.t 21)),
 .g (some 188) 186 true (.indexA 5 (.t 187) (.c (.int .i64 0))),
 .g (some 189) 186 true (.fieldA 1 (.t 188)),
 .g (some 190) 186 true (.load 1 false (.t 189)),
 .g (some 191) 186 true (.bin .eql (.t 190) (.c (.int .i64 127))),
 .o 192 (.pick (.t 186) (.t 191) (.c (.bool false))),
 .o 193 (.mov (.t 192)),
 .g (some 194) 193 true (.mov (.t 21)),
 .g (some 195) 193 true (.indexA 5 (.t 194) (.c (.int .i64 0))),
 .g (some 196) 193 true (.fieldA 3 (.t 195)),
 .g (some 197) 193 true (.load 1 false (.t 196)),
 .g (some 198) 193 true (.bin .eql (.t 197) (.c (.str []))),
 .o 199 (.pick (.t 193) (.t 198) (.c (.bool false))),
 .o 8 (.mov (.t 199))])
 (.ret))
 (.skip))))
 (.keep [0, 3, 12, 17, 18, 19, 20, 21] (.seq (.reg [.o 200 (.mov (.t 0)),
 .o 201 (.mov (.t 12)),
 .o 202 (.indexA 1 (.t 200) (.t 201)),
 .o 203 (.load 1 false (.t 202)),
 .o 22 (.mov (.t 203))])
 (.keep [3, 12, 17, 18, 19, 20, 21, 22] (.seq (.seq (.reg [.o 204 (.mov (.t 12)),
 .o 205 (.bin .rem (.t 204) (.c (.int .i64 3))),
 .o 206 (.bin .eql (.t 205) (.c (.int .i64 0)))])
 (.keep [3, 12, 17, 18, 19, 20, 21, 22, 206] (.cond (.t 206)
 (.reg [.o 207 (.mov (.t 22)),
 .o 208 (.mov (.t 3)),
 .o 209 (.bin .add (.t 207) (.t 208)),
 .o 22 (.mov (.t 209))])
 (.skip))))
 (.keep [3, 12, 17, 18, 19, 20, 21, 22] (.seq (.reg [.o 23 (.mov (.c (.str [])))])
 (.keep [3, 12, 17, 18, 19, 20, 21, 22, 23] (.seq (.seq (.reg [.o 210 (.mov (.t 12)),
 .o 211 (.bin .rem (.t 210) (.c (.int .i64 2))),
 .o 212 (.bin .eql (.t 211) (.c (.int .i64 0)))])
 (.keep [3, 12, 17, 18, 19, 20, 21, 22, 23, 212] (.cond (.t 212)
 (.reg [.o 213 (.mov (.t 3)),
 .o 23 (.mov (.t 213))])
 (.skip))))
 (.keep [12, 17, 18, 19, 20, 21, 22, 23] (.seq (.reg [.o 214 (.mov (.t 20)),
 .o 215 (.mov (.t 214)),
 .g (some 216) 215 true (.mov (.t 18)),
 .g (some 217) 215 true (.mov (.t 22)),
 .g (some 218) 215 true (.bin .eql (.t 216) (.t 217)),
 .o 219 (.pick (.t 215) (.t 218) (.c (.bool false))),
 .o 220 (.mov (.t 219)),
 .g (some 221) 220 true (.mov (.t 19)),
 .g (some 222) 220 true (.mov (.t 12)),
 .g (some 223) 220 true (.bin .eql (.t 221) (.t 222)),
 .o 224 (.pick (.t 220) (.t 223) (.c (.bool false))),
 .o 225 (.mov (.t 224)),
 .g (some 226) 225 true (.mov (.t 21)),
 .g (some 227) 225 true (.indexA 5 (.t 226) (.c (.int .i64 0))),
 .g (some 228) 225 true (.fieldA 1 (.t 227)),
 .g (some 229) 225 true (.load 1 false (.t 228)),
 .g (some 230) 225 true (.mov (.t 12)),
 .g (some 231) 225 true (.bin .eql (.t 229) (.t 230)),
 .o 232 (.pick (.t 225) (.t 231) (.c (.bool false))),
 .o 233 (.mov (.t 232)),
 .g (some 234) 233 true (.mov (.t 21)),
 .g (some 235) 233 true (.indexA 5 (.t 234) (.c (.int .i64 0))),
 .g (some 236) 233 true (.fieldA 3 (.t 235)),
 .g (some 237) 233 true (.load 1 false (.t 236)),
 .g (some 238) 233 true (.mov (.t 23)),
 .g (some 239) 233 true (.bin .eql (.t 237) (.t 238)),
 .o 240 (.pick (.t 233) (.t 239) (.c (.bool false))),
 .o 241 (.mov (.t 240)),
 .g (some 242) 241 true (.mov (.t 17)),
 .g (some 243) 241 true (.mov (.t 12)),
 .g (some 244) 241 true (.bin .rem (.t 243) (.c (.int .i64 2))),
 .g (some 245) 241 true (.bin .eql (.t 244) (.c (.int .i64 0))),
 .g (some 246) 241 true (.eq false .bool (.t 242) (.t 245)),
 .o 247 (.pick (.t 241) (.t 246) (.c (.bool false))),
 .o 8 (.mov (.t 247))])
 (.ret)))))))))))))))))))))))))))))))))))))
def a_patoislaw4_KernelRows : AFun := ⟨4, c_patoislaw4_KernelRows, [.tmp 8]⟩

/- patois/patoislaw4.KernelMarks -/
def c_patoislaw4_KernelMarks_l0 : ACode :=
 .keep [0, 1, 6, 8, 9] (.seq (.seq (.reg [.o 31 (.mov (.t 9)),
 .o 32 (.mov (.t 0)),
 .o 33 (.len false (.t 32)),
 .o 34 (.bin .lss (.t 31) (.t 33))])
 (.keep [0, 1, 6, 8, 9, 34] (.cond (.t 34)
 (.skip)
 (.exit 0))))
 (.keep [0, 1, 6, 8, 9] (.seq (.block 1 (.seq (.reg [.o 10 (.mov (.c (.int .i64 0)))])
 (.keep [0, 1, 6, 8, 9, 10] (.seq (.seq (.reg [.o 37 (.mov (.t 9)),
 .o 38 (.mov (.t 1)),
 .o 39 (.len false (.t 38)),
 .o 40 (.bin .lss (.t 37) (.t 39))])
 (.keep [0, 1, 6, 8, 9, 10, 40] (.cond (.t 40)
 (.reg [.o 41 (.mov (.t 1)),
 .o 42 (.mov (.t 9)),
 .o 43 (.indexA 1 (.t 41) (.t 42)),
 .o 44 (.load 1 false (.t 43)),
 .o 10 (.mov (.t 44))])
 (.skip))))
 (.keep [0, 1, 6, 8, 9, 10] (.seq (.dreg [⟨0, .o 45 (.mov (.t 6)), [], []⟩,
 ⟨1, .o 46 (.nilchk (.t 45)), [0], []⟩,
 ⟨2, .o 47 (.fieldA 0 (.t 46)), [0, 1], []⟩,
 ⟨3, .o 48 (.mov (.t 0)), [], []⟩,
 ⟨4, .o 49 (.mov (.t 9)), [], []⟩,
 ⟨5, .o 50 (.indexA 1 (.t 48) (.t 49)), [3, 4], []⟩,
 ⟨6, .o 51 (.load 1 false (.t 50)), [3, 4, 5], []⟩,
 ⟨7, .o 52 (.mov (.t 10)), [], []⟩,
 ⟨8, .o 53 (.callF F_world_asked_Mark [(.t 47), (.t 51), (.t 52)]), [0, 1, 2, 3, 4, 5, 6, 7], []⟩])
 (.keep [0, 1, 6, 8, 9, 10] (.seq (.reg [.o 54 (.mov (.t 0)),
 .o 55 (.mov (.t 9)),
 .o 56 (.indexA 1 (.t 54) (.t 55)),
 .o 57 (.load 1 false (.t 56)),
 .o 58 (.bin .geq (.t 57) (.c (.int .i64 4))),
 .o 59 (.mov (.t 58)),
 .g (some 60) 59 true (.mov (.t 0)),
 .g (some 61) 59 true (.mov (.t 9)),
 .g (some 62) 59 true (.indexA 1 (.t 60) (.t 61)),
 .g (some 63) 59 true (.load 1 false (.t 62)),
 .g (some 64) 59 true (.bin .leq (.t 63) (.c (.int .i64 6))),
 .o 65 (.pick (.t 59) (.t 64) (.c (.bool false)))])
 (.keep [0, 1, 6, 8, 9, 10, 65] (.cond (.t 65)
 (.reg [.o 66 (.mov (.t 8)),
 .o 67 (.mov (.t 0)),
 .o 68 (.mov (.t 9)),
 .o 69 (.indexA 1 (.t 67) (.t 68)),
 .o 70 (.load 1 false (.t 69)),
 .o 71 (.mov (.t 10)),
 .o 72 (.build [.int .i64 0, .int .i64 0, .str [], .str [], .sl none 1 0 (some 0)] [(0, 1, (.t 70)), (1, 1, (.t 71))]),
 .o 73 (.bslice false 5 1 [.int .i64 0, .int .i64 0, .str [], .str [], .sl none 1 0 (some 0)] [(0, 5, (.t 72))]),
 .o 74 (.append true 5 72 (.t 66) (.t 73)),
 .o 8 (.mov (.t 74))])
 (.skip)))))))))))
 (.keep [0, 1, 6, 8, 9] (.reg [.o 35 (.mov (.t 9)),
 .o 36 (.bin .add (.t 35) (.c (.int .i64 1))),
 .o 9 (.mov (.t 36))])))))
def c_patoislaw4_KernelMarks : ACode :=
 .seq (.reg [.o 4 (.mov (.c (.bool false)))])
 (.keep [0, 1] (.seq (.reg [.o 11 (.callF F_patoislaw4_first []),
 .o 5 (.mov (.t 11))])
 (.keep [0, 1, 5] (.seq (.seq (.reg [.o 12 (.mov (.t 0)),
 .o 13 (.len false (.t 12)),
 .o 14 (.bin .gtr (.t 13) (.c (.int .i64 40))),
 .o 15 (.mov (.t 14)),
 .g (some 16) 15 false (.mov (.t 5)),
 .g (some 17) 15 false (.not (.t 16)),
 .o 18 (.pick (.t 15) (.c (.bool true)) (.t 17))])
 (.keep [0, 1, 5, 18] (.cond (.t 18)
 (.seq (.reg [.o 19 (.mov (.t 5)),
 .o 4 (.mov (.t 19))])
 (.ret))
 (.skip))))
 (.keep [0, 1] (.seq (.reg [.o 21 (.build [.sl none 2 0 (some 0), .sl none 7 0 (some 0)] []),
 .o 22 (.callF F_world_New [(.t 21)]),
 .o 20 (.mov (.t 22)),
 .o 23 (.extract (.t 20) 0),
 .o 24 (.extract (.t 20) 1),
 .o 6 (.mov (.t 23)),
 .o 7 (.mov (.t 24))])
 (.keep [0, 1, 6, 7] (.seq (.seq (.reg [.o 25 (.mov (.t 6)),
 .o 26 (.eq false .ptr (.t 25) (.c (.ptr none))),
 .o 27 (.mov (.t 26)),
 .g (some 28) 27 false (.mov (.t 7)),
 .g (some 29) 27 false (.eq true .ifc (.t 28) (.c (.nilI))),
 .o 30 (.pick (.t 27) (.c (.bool true)) (.t 29))])
 (.keep [0, 1, 6, 30] (.cond (.t 30)
 (.seq (.reg [.o 4 (.mov (.c (.bool false)))])
 (.ret))
 (.skip))))
 (.keep [0, 1, 6] (.seq (.reg [.o 8 (.mov (.c (.sl none 5 0 (some 0))))])
 (.keep [0, 1, 6, 8] (.seq (.seq (.reg [.o 9 (.mov (.c (.int .i64 0)))])
 (.keep [0, 1, 6, 8, 9] (.block 0 (.loop c_patoislaw4_KernelMarks_l0))))
 (.keep [6, 8] (.seq (.reg [.o 75 (.mov (.t 6)),
 .o 76 (.nilchk (.t 75)),
 .o 77 (.fieldA 0 (.t 76)),
 .o 78 (.callF F_world_asked_Trace [(.t 77)]),
 .o 79 (.mov (.t 8)),
 .o 80 (.callF F_patoisref_SameEvents [(.t 78), (.t 79)]),
 .o 81 (.mov (.t 80)),
 .g (some 82) 81 true (.mov (.t 6)),
 .g (some 83) 81 true (.nilchk (.t 82)),
 .g (some 84) 81 true (.fieldA 0 (.t 83)),
 .g (some 85) 81 true (.callF F_world_asked_Trace [(.t 84)]),
 .g (some 86) 81 true (.callF F_world_Erase [(.t 85)]),
 .g (some 87) 81 true (.len false (.t 86)),
 .g (some 88) 81 true (.bin .eql (.t 87) (.c (.int .i64 0))),
 .o 89 (.pick (.t 81) (.t 88) (.c (.bool false))),
 .o 90 (.mov (.t 89)),
 .g (some 91) 90 true (.mov (.t 6)),
 .g (some 92) 90 true (.nilchk (.t 91)),
 .g (some 93) 90 true (.fieldA 0 (.t 92)),
 .g (some 94) 90 true (.callF F_world_asked_Len [(.t 93)]),
 .g (some 95) 90 true (.mov (.t 8)),
 .g (some 96) 90 true (.len false (.t 95)),
 .g (some 97) 90 true (.bin .eql (.t 94) (.t 96)),
 .o 98 (.pick (.t 90) (.t 97) (.c (.bool false))),
 .o 4 (.mov (.t 98))])
 (.ret)))))))))))))))
def a_patoislaw4_KernelMarks : AFun := ⟨2, c_patoislaw4_KernelMarks, [.tmp 4]⟩

/- patois/patoislaw4.KernelPlays -/
def c_patoislaw4_KernelPlays_l0 : ACode :=
 .keep [1, 7, 9, 10] (.seq (.seq (.reg [.o 67 (.mov (.t 10)),
 .o 68 (.mov (.t 1)),
 .o 69 (.len false (.t 68)),
 .o 70 (.bin .lss (.t 67) (.t 69))])
 (.keep [1, 7, 9, 10, 70] (.cond (.t 70)
 (.skip)
 (.exit 0))))
 (.keep [1, 7, 9, 10] (.seq (.block 1 (.seq (.reg [.o 73 (.mov (.t 1)),
 .o 74 (.mov (.t 10)),
 .o 75 (.indexA 6 (.t 73) (.t 74)),
 .o 76 (.load 6 true (.t 75)),
 .o 11 (.alloc [.int .i64 0, .int .i64 0, .int .i64 0, .str [], .str [], .sl none 1 0 (some 0)]),
 .n (.store 6 (.t 11) (.t 76))])
 (.keep [1, 7, 9, 10, 11] (.seq (.seq (.reg [.o 77 (.fieldA 5 (.t 11)),
 .o 78 (.load 1 false (.t 77)),
 .o 79 (.len false (.t 78)),
 .o 80 (.bin .gtr (.t 79) (.c (.int .i64 20))),
 .o 81 (.mov (.t 80)),
 .g (some 82) 81 false (.fieldA 4 (.t 11)),
 .g (some 83) 81 false (.load 1 false (.t 82)),
 .g (some 84) 81 false (.len true (.t 83)),
 .g (some 85) 81 false (.bin .gtr (.t 84) (.c (.int .i64 20000))),
 .o 86 (.pick (.t 81) (.c (.bool true)) (.t 85)),
 .o 87 (.mov (.t 86)),
 .g (some 88) 87 false (.fieldA 3 (.t 11)),
 .g (some 89) 87 false (.load 1 false (.t 88)),
 .g (some 90) 87 false (.len true (.t 89)),
 .g (some 91) 87 false (.bin .gtr (.t 90) (.c (.int .i64 3000))),
 .o 92 (.pick (.t 87) (.c (.bool true)) (.t 91))])
 (.keep [1, 7, 9, 10, 11, 92] (.cond (.t 92)
 (.seq (.reg [.o 4 (.mov (.c (.bool true)))])
 (.ret))
 (.skip))))
 (.keep [1, 7, 9, 10, 11] (.seq (.seq (.reg [.o 93 (.fieldA 0 (.t 11)),
 .o 94 (.load 1 false (.t 93))])
 (.keep [1, 7, 9, 10, 11, 94] (.block 2 (.seq (.reg [.o 110 (.bin .eql (.t 94) (.c (.int .i64 1))),
 .o 109 (.mov (.t 110))])
 (.keep [1, 7, 9, 10, 11, 94, 109] (.cond (.t 109)
 (.seq (.reg [.o 112 (.mov (.t 7)),
 .o 113 (.fieldA 3 (.t 11)),
 .o 114 (.load 1 false (.t 113)),
 .o 115 (.fieldA 4 (.t 11)),
 .o 116 (.load 1 false (.t 115)),
 .o 117 (.fieldA 5 (.t 11)),
 .o 118 (.load 1 false (.t 117)),
 .o 119 (.callF F_world_Kernel_Exec [(.t 112), (.t 114), (.t 116), (.t 118)]),
 .o 111 (.mov (.t 119)),
 .o 120 (.extract (.t 111) 0),
 .o 121 (.extract (.t 111) 1),
 .o 122 (.extract (.t 111) 2),
 .o 12 (.mov (.t 120)),
 .o 13 (.mov (.t 121)),
 .o 14 (.mov (.t 122))])
 (.keep [1, 7, 9, 10, 11, 12, 13, 14] (.seq (.reg [.o 124 (.mov (.t 9)),
 .o 125 (.fieldA 3 (.t 11)),
 .o 126 (.load 1 false (.t 125)),
 .o 127 (.fieldA 4 (.t 11)),
 .o 128 (.load 1 false (.t 127)),
 .o 129 (.fieldA 5 (.t 11)),
 .o 130 (.load 1 false (.t 129)),
 .o 131 (.callF F_patoisref4_Kernel_Exec [(.t 124), (.t 126), (.t 128), (.t 130)]),
 .o 123 (.mov (.t 131)),
 .o 132 (.extract (.t 123) 0),
 .o 133 (.extract (.t 123) 1),
 .o 134 (.extract (.t 123) 2),
 .o 15 (.mov (.t 132)),
 .o 16 (.mov (.t 133)),
 .o 17 (.mov (.t 134))])
 (.keep [1, 7, 9, 10, 11, 12, 13, 14, 15, 16, 17] (.seq (.dreg [⟨0, .o 135 (.mov (.t 12)), [], []⟩,
 ⟨1, .o 136 (.mov (.t 15)), [], []⟩,
 ⟨2, .o 137 (.bin .neq (.t 135) (.t 136)), [0, 1], []⟩,
 ⟨3, .o 138 (.mov (.t 137)), [0, 1, 2], []⟩,
 ⟨4, .g (some 139) 138 false (.mov (.t 13)), [0, 1, 2, 3], []⟩,
 ⟨5, .g (some 140) 138 false (.mov (.t 16)), [0, 1, 2, 3], []⟩,
 ⟨6, .g (some 141) 138 false (.bin .neq (.t 139) (.t 140)), [0, 1, 2, 3, 4, 5], []⟩,
 ⟨7, .o 142 (.pick (.t 138) (.c (.bool true)) (.t 141)), [0, 1, 2, 3, 4, 5, 6], []⟩,
 ⟨8, .o 143 (.mov (.t 142)), [0, 1, 2, 3, 4, 5, 6, 7], []⟩,
 ⟨9, .g (some 144) 143 false (.mov (.t 14)), [0, 1, 2, 3, 4, 5, 6, 7, 8], []⟩,
 ⟨10, .g (some 145) 143 false (.mov (.t 17)), [0, 1, 2, 3, 4, 5, 6, 7, 8], []⟩,
 ⟨11, .g (some 146) 143 false (.eq true .bool (.t 144) (.t 145)), [0, 1, 2, 3, 4, 5, 6, 7, 8, 9, 10], []⟩,
 ⟨12, .o 147 (.pick (.t 143) (.c (.bool true)) (.t 146)), [0, 1, 2, 3, 4, 5, 6, 7, 8, 9, 10, 11], []⟩,
 ⟨13, .o 148 (.mov (.t 147)), [0, 1, 2, 3, 4, 5, 6, 7, 8, 9, 10, 11, 12], []⟩,
 ⟨14, .g (some 149) 148 false (.mov (.t 7)), [0, 1, 2, 3, 4, 5, 6, 7, 8, 9, 10, 11, 12, 13], []⟩,
 ⟨15, .g (some 150) 148 false (.fieldA 3 (.t 11)), [0, 1, 2, 3, 4, 5, 6, 7, 8, 9, 10, 11, 12, 13], []⟩,
 ⟨16, .g (some 151) 148 false (.load 1 false (.t 150)), [0, 1, 2, 3, 4, 5, 6, 7, 8, 9, 10, 11, 12, 13, 15], []⟩,
 ⟨17, .g (some 152) 148 false (.fieldA 5 (.t 11)), [0, 1, 2, 3, 4, 5, 6, 7, 8, 9, 10, 11, 12, 13], []⟩,
 ⟨18, .g (some 153) 148 false (.load 1 false (.t 152)), [0, 1, 2, 3, 4, 5, 6, 7, 8, 9, 10, 11, 12, 13, 17], []⟩,
 ⟨20, .g (some 155) 148 false (.mov (.t 9)), [0, 1, 2, 3, 4, 5, 6, 7, 8, 9, 10, 11, 12, 13], []⟩,
 ⟨21, .g (some 156) 148 false (.fieldA 3 (.t 11)), [0, 1, 2, 3, 4, 5, 6, 7, 8, 9, 10, 11, 12, 13], []⟩,
 ⟨22, .g (some 157) 148 false (.load 1 false (.t 156)), [0, 1, 2, 3, 4, 5, 6, 7, 8, 9, 10, 11, 12, 13, 21], []⟩,
 ⟨23, .g (some 158) 148 false (.fieldA 5 (.t 11)), [0, 1, 2, 3, 4, 5, 6, 7, 8, 9, 10, 11, 12, 13], []⟩,
 ⟨24, .g (some 159) 148 false (.load 1 false (.t 158)), [0, 1, 2, 3, 4, 5, 6, 7, 8, 9, 10, 11, 12, 13, 23], []⟩,
 ⟨19, .g (some 154) 148 false (.callF F_world_Kernel_Reads [(.t 149), (.t 151), (.t 153)]), [0, 1, 2, 3, 4, 5, 6, 7, 8, 9, 10, 11, 12, 13, 14, 15, 16, 17, 18], [22, 24]⟩,
 ⟨25, .g (some 160) 148 false (.callF F_patoisref4_Kernel_Reads [(.t 155), (.t 157), (.t 159)]), [0, 1, 2, 3, 4, 5, 6, 7, 8, 9, 10, 11, 12, 13, 14, 15, 16, 17, 18, 19, 20, 21, 22, 23, 24], []⟩,
 ⟨26, .g (some 161) 148 false (.eq true .bool (.t 154) (.t 160)), [0, 1, 2, 3, 4, 5, 6, 7, 8, 9, 10, 11, 12, 13, 14, 15, 16, 17, 18, 19, 20, 21, 22, 23, 24, 25], []⟩,
 ⟨27, .o 162 (.pick (.t 148) (.c (.bool true)) (.t 161)), [0, 1, 2, 3, 4, 5, 6, 7, 8, 9, 10, 11, 12, 13, 14, 15, 16, 17, 18, 19, 20, 21, 22, 23, 24, 25, 26], []⟩])
 (.keep [1, 7, 9, 10, 162] (.cond (.t 162)
 (.seq (.reg [.o 4 (.mov (.c (.bool false)))])
 (.ret))
 (.skip))))))))
 (.seq (.reg [.o 164 (.bin .eql (.t 94) (.c (.int .i64 2))),
 .o 163 (.mov (.t 164))])
 (.keep [1, 7, 9, 10, 11, 94, 163] (.cond (.t 163)
 (.seq (.reg [.o 166 (.mov (.t 7)),
 .o 167 (.fieldA 3 (.t 11)),
 .o 168 (.load 1 false (.t 167)),
 .o 169 (.fieldA 1 (.t 11)),
 .o 170 (.load 1 false (.t 169)),
 .o 171 (.callF F_world_Kernel_Open [(.t 166), (.t 168), (.t 170)]),
 .o 165 (.mov (.t 171)),
 .o 172 (.extract (.t 165) 0),
 .o 173 (.extract (.t 165) 1),
 .o 18 (.mov (.t 172)),
 .o 19 (.mov (.t 173))])
 (.keep [1, 7, 9, 10, 11, 18, 19] (.seq (.reg [.o 175 (.mov (.t 9)),
 .o 176 (.fieldA 3 (.t 11)),
 .o 177 (.load 1 false (.t 176)),
 .o 178 (.fieldA 1 (.t 11)),
 .o 179 (.load 1 false (.t 178)),
 .o 180 (.callF F_patoisref4_Kernel_Open [(.t 175), (.t 177), (.t 179)]),
 .o 174 (.mov (.t 180)),
 .o 181 (.extract (.t 174) 0),
 .o 182 (.extract (.t 174) 1),
 .o 20 (.mov (.t 181)),
 .o 21 (.mov (.t 182))])
 (.keep [1, 7, 9, 10, 18, 19, 20, 21] (.seq (.reg [.o 183 (.mov (.t 18)),
 .o 184 (.mov (.t 20)),
 .o 185 (.bin .neq (.t 183) (.t 184)),
 .o 186 (.mov (.t 185)),
 .g (some 187) 186 false (.mov (.t 19)),
 .g (some 188) 186 false (.mov (.t 21)),
 .g (some 189) 186 false (.eq true .bool (.t 187) (.t 188)),
 .o 190 (.pick (.t 186) (.c (.bool true)) (.t 189))])
 (.keep [1, 7, 9, 10, 190] (.cond (.t 190)
 (.seq (.reg [.o 4 (.mov (.c (.bool false)))])
 (.ret))
 (.skip))))))))
 (.seq (.reg [.o 192 (.bin .eql (.t 94) (.c (.int .i64 3))),
 .o 191 (.mov (.t 192))])
 (.keep [1, 7, 9, 10, 11, 191] (.cond (.t 191)
 (.seq (.reg [.o 193 (.mov (.t 7)),
 .o 194 (.fieldA 3 (.t 11)),
 .o 195 (.load 1 false (.t 194)),
 .o 196 (.fieldA 4 (.t 11)),
 .o 197 (.load 1 false (.t 196)),
 .o 198 (.callF F_world_Kernel_Write [(.t 193), (.t 195), (.t 197)]),
 .o 22 (.mov (.t 198))])
 (.keep [1, 7, 9, 10, 11, 22] (.seq (.reg [.o 199 (.mov (.t 9)),
 .o 200 (.fieldA 3 (.t 11)),
 .o 201 (.load 1 false (.t 200)),
 .o 202 (.fieldA 4 (.t 11)),
 .o 203 (.load 1 false (.t 202)),
 .o 204 (.callF F_patoisref4_Kernel_Write [(.t 199), (.t 201), (.t 203)]),
 .o 23 (.mov (.t 204))])
 (.keep [1, 7, 9, 10, 22, 23] (.seq (.reg [.o 205 (.mov (.t 23)),
 .o 206 (.mov (.t 22)),
 .o 207 (.eq false .ifc (.t 206) (.c (.nilI))),
 .o 208 (.eq true .bool (.t 205) (.t 207)),
 .o 209 (.mov (.t 208)),
 .g (some 210) 209 false (.mov (.t 23)),
 .g (some 211) 209 false (.not (.t 210)),
 .g (some 212) 209 false (.mov (.t 211)),
 .g (some 213) 212 true (.mov (.t 22)),
 .g (some 214) 212 true (.load 1 false (.g G_api_ErrBig)),
 .g (some 215) 212 true (.eq true .ifc (.t 213) (.t 214)),
 .g (some 216) 209 false (.pick (.t 212) (.t 215) (.c (.bool false))),
 .o 217 (.pick (.t 209) (.c (.bool true)) (.t 216))])
 (.keep [1, 7, 9, 10, 217] (.cond (.t 217)
 (.seq (.reg [.o 4 (.mov (.c (.bool false)))])
 (.ret))
 (.skip))))))))
 (.seq (.dreg [⟨0, .o 95 (.mov (.t 7)), [], []⟩,
 ⟨1, .o 96 (.nilchk (.t 95)), [0], []⟩,
 ⟨2, .o 97 (.fieldA 0 (.t 96)), [0, 1], []⟩,
 ⟨3, .o 98 (.fieldA 1 (.t 11)), [], []⟩,
 ⟨4, .o 99 (.load 1 false (.t 98)), [3], []⟩,
 ⟨5, .o 100 (.fieldA 2 (.t 11)), [], []⟩,
 ⟨6, .o 101 (.load 1 false (.t 100)), [5], []⟩,
 ⟨7, .o 102 (.callF F_world_asked_Mark [(.t 97), (.t 99), (.t 101)]), [0, 1, 2, 3, 4, 5, 6], []⟩])
 (.keep [1, 7, 9, 10, 11] (.reg [.o 103 (.mov (.t 9)),
 .o 104 (.fieldA 1 (.t 11)),
 .o 105 (.load 1 false (.t 104)),
 .o 106 (.fieldA 2 (.t 11)),
 .o 107 (.load 1 false (.t 106)),
 .o 108 (.callF F_patoisref4_Kernel_Mark [(.t 103), (.t 105), (.t 107)])])))))))))))))))
 (.keep [1, 7, 9, 10] (.seq (.dreg [⟨0, .o 218 (.mov (.t 7)), [], []⟩,
 ⟨1, .o 219 (.nilchk (.t 218)), [0], []⟩,
 ⟨2, .o 220 (.fieldA 0 (.t 219)), [0, 1], []⟩,
 ⟨4, .o 222 (.mov (.t 9)), [], []⟩,
 ⟨5, .o 223 (.nilchk (.t 222)), [4], []⟩,
 ⟨6, .o 224 (.fieldA 2 (.t 223)), [4, 5], []⟩,
 ⟨7, .o 225 (.load 1 false (.t 224)), [4, 5, 6], []⟩,
 ⟨8, .o 226 (.len false (.t 225)), [4, 5, 6, 7], []⟩,
 ⟨3, .o 221 (.callF F_world_asked_Len [(.t 220)]), [0, 1, 2], [7]⟩,
 ⟨9, .o 227 (.bin .neq (.t 221) (.t 226)), [0, 1, 2, 3, 4, 5, 6, 7, 8], []⟩])
 (.keep [1, 7, 9, 10, 227] (.cond (.t 227)
 (.seq (.reg [.o 4 (.mov (.c (.bool false)))])
 (.ret))
 (.skip)))))))))))
 (.keep [1, 7, 9, 10] (.reg [.o 71 (.mov (.t 10)),
 .o 72 (.bin .add (.t 71) (.c (.int .i64 1))),
 .o 10 (.mov (.t 72))])))))
def c_patoislaw4_KernelPlays : ACode :=
 .seq (.reg [.o 2 (.box (.t 0)),
 .o 4 (.mov (.c (.bool false)))])
 (.keep [1, 2] (.seq (.reg [.o 24 (.callF F_patoislaw4_first []),
 .o 5 (.mov (.t 24))])
 (.keep [1, 2, 5] (.seq (.seq (.reg [.o 25 (.load 2 true (.t 2)),
 .o 26 (.callF F_patoislaw4_light [(.t 25)]),
 .o 27 (.not (.t 26)),
 .o 28 (.mov (.t 27)),
 .g (some 29) 28 false (.mov (.t 1)),
 .g (some 30) 28 false (.len false (.t 29)),
 .g (some 31) 28 false (.bin .gtr (.t 30) (.c (.int .i64 40))),
 .o 32 (.pick (.t 28) (.c (.bool true)) (.t 31)),
 .o 33 (.mov (.t 32)),
 .g (some 34) 33 false (.mov (.t 5)),
 .g (some 35) 33 false (.not (.t 34)),
 .o 36 (.pick (.t 33) (.c (.bool true)) (.t 35))])
 (.keep [1, 2, 5, 36] (.cond (.t 36)
 (.seq (.reg [.o 37 (.mov (.t 5)),
 .o 4 (.mov (.t 37))])
 (.ret))
 (.skip))))
 (.keep [1, 2] (.seq (.reg [.o 38 (.load 2 true (.t 2)),
 .o 39 (.callF F_patoisref4_May [(.t 38)]),
 .o 6 (.mov (.t 39))])
 (.keep [1, 2, 6] (.seq (.reg [.o 41 (.load 2 true (.t 2)),
 .o 42 (.callF F_world_New [(.t 41)]),
 .o 40 (.mov (.t 42)),
 .o 43 (.extract (.t 40) 0),
 .o 44 (.extract (.t 40) 1),
 .o 7 (.mov (.t 43)),
 .o 8 (.mov (.t 44))])
 (.keep [1, 2, 6, 7, 8] (.seq (.seq (.reg [.o 45 (.load 2 true (.t 2)),
 .o 46 (.callF F_world_May [(.t 45)]),
 .o 47 (.mov (.t 6)),
 .o 48 (.callF F_patoissee_Is [(.t 46), (.t 47)]),
 .o 49 (.not (.t 48)),
 .o 50 (.mov (.t 49)),
 .g (some 51) 50 false (.mov (.t 8)),
 .g (some 52) 50 false (.mov (.t 6)),
 .g (some 53) 50 false (.callF F_patoissee_Is [(.t 51), (.t 52)]),
 .g (some 54) 50 false (.not (.t 53)),
 .o 55 (.pick (.t 50) (.c (.bool true)) (.t 54)),
 .o 56 (.mov (.t 55)),
 .g (some 57) 56 false (.mov (.t 7)),
 .g (some 58) 56 false (.eq false .ptr (.t 57) (.c (.ptr none))),
 .g (some 59) 56 false (.mov (.t 6)),
 .g (some 60) 56 false (.bin .neq (.t 59) (.c (.int .i64 0))),
 .g (some 61) 56 false (.eq true .bool (.t 58) (.t 60)),
 .o 62 (.pick (.t 56) (.c (.bool true)) (.t 61))])
 (.keep [1, 2, 7, 62] (.cond (.t 62)
 (.seq (.reg [.o 4 (.mov (.c (.bool false)))])
 (.ret))
 (.skip))))
 (.keep [1, 2, 7] (.seq (.seq (.reg [.o 63 (.mov (.t 7)),
 .o 64 (.eq false .ptr (.t 63) (.c (.ptr none)))])
 (.keep [1, 2, 7, 64] (.cond (.t 64)
 (.seq (.reg [.o 4 (.mov (.c (.bool true)))])
 (.ret))
 (.skip))))
 (.keep [1, 2, 7] (.seq (.reg [.o 65 (.load 2 true (.t 2)),
 .o 66 (.callF F_patoisref4_New [(.t 65)]),
 .o 9 (.mov (.t 66))])
 (.keep [1, 7, 9] (.seq (.seq (.reg [.o 10 (.mov (.c (.int .i64 0)))])
 (.keep [1, 7, 9, 10] (.block 0 (.loop c_patoislaw4_KernelPlays_l0))))
 (.keep [7, 9] (.seq (.dreg [⟨0, .o 228 (.mov (.t 7)), [], []⟩,
 ⟨1, .o 229 (.nilchk (.t 228)), [0], []⟩,
 ⟨2, .o 230 (.fieldA 0 (.t 229)), [0, 1], []⟩,
 ⟨4, .o 232 (.mov (.t 9)), [], []⟩,
 ⟨5, .o 233 (.nilchk (.t 232)), [4], []⟩,
 ⟨6, .o 234 (.fieldA 2 (.t 233)), [4, 5], []⟩,
 ⟨7, .o 235 (.load 1 false (.t 234)), [4, 5, 6], []⟩,
 ⟨3, .o 231 (.callF F_world_asked_Trace [(.t 230)]), [0, 1, 2], [7]⟩,
 ⟨8, .o 236 (.callF F_patoisref_SameEvents [(.t 231), (.t 235)]), [0, 1, 2, 3, 4, 5, 6, 7], []⟩,
 ⟨9, .o 237 (.mov (.t 236)), [0, 1, 2, 3, 4, 5, 6, 7, 8], []⟩,
 ⟨10, .g (some 238) 237 true (.mov (.t 7)), [0, 1, 2, 3, 4, 5, 6, 7, 8, 9], []⟩,
 ⟨12, .g (some 240) 237 true (.mov (.t 9)), [0, 1, 2, 3, 4, 5, 6, 7, 8, 9], []⟩,
 ⟨13, .g (some 241) 237 true (.nilchk (.t 240)), [0, 1, 2, 3, 4, 5, 6, 7, 8, 9, 12], []⟩,
 ⟨14, .g (some 242) 237 true (.fieldA 0 (.t 241)), [0, 1, 2, 3, 4, 5, 6, 7, 8, 9, 12, 13], []⟩,
 ⟨15, .g (some 243) 237 true (.load 1 false (.t 242)), [0, 1, 2, 3, 4, 5, 6, 7, 8, 9, 12, 13, 14], []⟩,
 ⟨11, .g (some 239) 237 true (.callF F_world_Kernel_Files [(.t 238)]), [0, 1, 2, 3, 4, 5, 6, 7, 8, 9, 10], [15]⟩,
 ⟨16, .g (some 244) 237 true (.callF F_patoisref_SameFiles [(.t 239), (.t 243)]), [0, 1, 2, 3, 4, 5, 6, 7, 8, 9, 10, 11, 12, 13, 14, 15], []⟩,
 ⟨17, .o 245 (.pick (.t 237) (.t 244) (.c (.bool false))), [0, 1, 2, 3, 4, 5, 6, 7, 8, 9, 10, 11, 12, 13, 14, 15, 16], []⟩,
 ⟨18, .o 246 (.mov (.t 245)), [0, 1, 2, 3, 4, 5, 6, 7, 8, 9, 10, 11, 12, 13, 14, 15, 16, 17], []⟩,
 ⟨19, .g (some 247) 246 true (.mov (.t 7)), [0, 1, 2, 3, 4, 5, 6, 7, 8, 9, 10, 11, 12, 13, 14, 15, 16, 17, 18], []⟩,
 ⟨21, .g (some 249) 246 true (.mov (.t 9)), [0, 1, 2, 3, 4, 5, 6, 7, 8, 9, 10, 11, 12, 13, 14, 15, 16, 17, 18], []⟩,
 ⟨20, .g (some 248) 246 true (.callF F_world_Kernel_Names [(.t 247)]), [0, 1, 2, 3, 4, 5, 6, 7, 8, 9, 10, 11, 12, 13, 14, 15, 16, 17, 18, 19], []⟩,
 ⟨22, .g (some 250) 246 true (.callF F_patoisref4_Kernel_Names [(.t 249)]), [0, 1, 2, 3, 4, 5, 6, 7, 8, 9, 10, 11, 12, 13, 14, 15, 16, 17, 18, 19, 20, 21], []⟩,
 ⟨23, .g (some 251) 246 true (.callF F_patoisref_SameTexts [(.t 248), (.t 250)]), [0, 1, 2, 3, 4, 5, 6, 7, 8, 9, 10, 11, 12, 13, 14, 15, 16, 17, 18, 19, 20, 21, 22], []⟩,
 ⟨24, .o 252 (.pick (.t 246) (.t 251) (.c (.bool false))), [0, 1, 2, 3, 4, 5, 6, 7, 8, 9, 10, 11, 12, 13, 14, 15, 16, 17, 18, 19, 20, 21, 22, 23], []⟩,
 ⟨25, .o 253 (.mov (.t 252)), [0, 1, 2, 3, 4, 5, 6, 7, 8, 9, 10, 11, 12, 13, 14, 15, 16, 17, 18, 19, 20, 21, 22, 23, 24], []⟩,
 ⟨26, .g (some 254) 253 true (.mov (.t 7)), [0, 1, 2, 3, 4, 5, 6, 7, 8, 9, 10, 11, 12, 13, 14, 15, 16, 17, 18, 19, 20, 21, 22, 23, 24, 25], []⟩,
 ⟨27, .g (some 255) 253 true (.nilchk (.t 254)), [0, 1, 2, 3, 4, 5, 6, 7, 8, 9, 10, 11, 12, 13, 14, 15, 16, 17, 18, 19, 20, 21, 22, 23, 24, 25, 26], []⟩,
 ⟨28, .g (some 256) 253 true (.fieldA 0 (.t 255)), [0, 1, 2, 3, 4, 5, 6, 7, 8, 9, 10, 11, 12, 13, 14, 15, 16, 17, 18, 19, 20, 21, 22, 23, 24, 25, 26, 27], []⟩,
 ⟨31, .g (some 259) 253 true (.mov (.t 9)), [0, 1, 2, 3, 4, 5, 6, 7, 8, 9, 10, 11, 12, 13, 14, 15, 16, 17, 18, 19, 20, 21, 22, 23, 24, 25], []⟩,
 ⟨32, .g (some 260) 253 true (.nilchk (.t 259)), [0, 1, 2, 3, 4, 5, 6, 7, 8, 9, 10, 11, 12, 13, 14, 15, 16, 17, 18, 19, 20, 21, 22, 23, 24, 25, 31], []⟩,
 ⟨33, .g (some 261) 253 true (.fieldA 2 (.t 260)), [0, 1, 2, 3, 4, 5, 6, 7, 8, 9, 10, 11, 12, 13, 14, 15, 16, 17, 18, 19, 20, 21, 22, 23, 24, 25, 31, 32], []⟩,
 ⟨34, .g (some 262) 253 true (.load 1 false (.t 261)), [0, 1, 2, 3, 4, 5, 6, 7, 8, 9, 10, 11, 12, 13, 14, 15, 16, 17, 18, 19, 20, 21, 22, 23, 24, 25, 31, 32, 33], []⟩,
 ⟨29, .g (some 257) 253 true (.callF F_world_asked_Trace [(.t 256)]), [0, 1, 2, 3, 4, 5, 6, 7, 8, 9, 10, 11, 12, 13, 14, 15, 16, 17, 18, 19, 20, 21, 22, 23, 24, 25, 26, 27, 28], [34]⟩,
 ⟨30, .g (some 258) 253 true (.callF F_world_Erase [(.t 257)]), [0, 1, 2, 3, 4, 5, 6, 7, 8, 9, 10, 11, 12, 13, 14, 15, 16, 17, 18, 19, 20, 21, 22, 23, 24, 25, 26, 27, 28, 29], [34]⟩,
 ⟨35, .g (some 263) 253 true (.callF F_patoisref4_Erase [(.t 262)]), [0, 1, 2, 3, 4, 5, 6, 7, 8, 9, 10, 11, 12, 13, 14, 15, 16, 17, 18, 19, 20, 21, 22, 23, 24, 25, 26, 27, 28, 29, 30, 31, 32, 33, 34], []⟩,
 ⟨36, .g (some 264) 253 true (.callF F_patoisref_SameEvents [(.t 258), (.t 263)]), [0, 1, 2, 3, 4, 5, 6, 7, 8, 9, 10, 11, 12, 13, 14, 15, 16, 17, 18, 19, 20, 21, 22, 23, 24, 25, 26, 27, 28, 29, 30, 31, 32, 33, 34, 35], []⟩,
 ⟨37, .o 265 (.pick (.t 253) (.t 264) (.c (.bool false))), [0, 1, 2, 3, 4, 5, 6, 7, 8, 9, 10, 11, 12, 13, 14, 15, 16, 17, 18, 19, 20, 21, 22, 23, 24, 25, 26, 27, 28, 29, 30, 31, 32, 33, 34, 35, 36], []⟩,
 ⟨38, .o 4 (.mov (.t 265)), [0, 1, 2, 3, 4, 5, 6, 7, 8, 9, 10, 11, 12, 13, 14, 15, 16, 17, 18, 19, 20, 21, 22, 23, 24, 25, 26, 27, 28, 29, 30, 31, 32, 33, 34, 35, 36, 37], []⟩])
 (.ret)))))))))))))))))))
def a_patoislaw4_KernelPlays : AFun := ⟨2, c_patoislaw4_KernelPlays, [.tmp 4]⟩

/- patois/patoislaw4.KernelBegins -/
def c_patoislaw4_KernelBegins_l0 : ACode :=
 .keep [0, 1, 2, 8] (.seq (.seq (.reg [.o 25 (.mov (.t 8)),
 .o 26 (.mov (.t 0)),
 .o 27 (.len false (.t 26)),
 .o 28 (.mov (.t 1)),
 .o 29 (.len false (.t 28)),
 .o 30 (.bin .add (.t 27) (.t 29)),
 .o 31 (.bin .lss (.t 25) (.t 30))])
 (.keep [0, 1, 2, 8, 31] (.cond (.t 31)
 (.skip)
 (.exit 0))))
 (.keep [0, 1, 2, 8] (.seq (.block 1 (.seq (.reg [.o 9 (.alloc [.int .i64 0, .int .i64 0, .str [], .str [], .sl none 1 0 (some 0)])])
 (.keep [0, 1, 2, 8, 9] (.seq (.seq (.reg [.o 34 (.mov (.t 8)),
 .o 35 (.mov (.t 0)),
 .o 36 (.len false (.t 35)),
 .o 37 (.bin .lss (.t 34) (.t 36))])
 (.keep [0, 1, 2, 8, 9, 37] (.cond (.t 37)
 (.reg [.o 38 (.mov (.t 0)),
 .o 39 (.mov (.t 8)),
 .o 40 (.indexA 5 (.t 38) (.t 39)),
 .o 41 (.load 5 true (.t 40)),
 .n (.store 5 (.t 9) (.t 41))])
 (.reg [.o 42 (.mov (.t 1)),
 .o 43 (.mov (.t 8)),
 .o 44 (.mov (.t 0)),
 .o 45 (.len false (.t 44)),
 .o 46 (.bin .sub (.t 43) (.t 45)),
 .o 47 (.indexA 5 (.t 42) (.t 46)),
 .o 48 (.load 5 true (.t 47)),
 .n (.store 5 (.t 9) (.t 48))]))))
 (.keep [0, 1, 2, 8, 9] (.seq (.reg [.o 49 (.fieldA 4 (.t 9)),
 .o 50 (.load 1 false (.t 49)),
 .o 51 (.len false (.t 50)),
 .o 52 (.bin .gtr (.t 51) (.c (.int .i64 30))),
 .o 53 (.mov (.t 52)),
 .g (some 54) 53 false (.fieldA 2 (.t 9)),
 .g (some 55) 53 false (.load 1 false (.t 54)),
 .g (some 56) 53 false (.len true (.t 55)),
 .g (some 57) 53 false (.fieldA 3 (.t 9)),
 .g (some 58) 53 false (.load 1 false (.t 57)),
 .g (some 59) 53 false (.len true (.t 58)),
 .g (some 60) 53 false (.bin .add (.t 56) (.t 59)),
 .g (some 61) 53 false (.bin .gtr (.t 60) (.c (.int .i64 3000))),
 .o 62 (.pick (.t 53) (.c (.bool true)) (.t 61))])
 (.keep [0, 1, 2, 8, 62] (.cond (.t 62)
 (.seq (.reg [.o 6 (.mov (.c (.bool true)))])
 (.ret))
 (.skip)))))))))
 (.keep [0, 1, 2, 8] (.reg [.o 32 (.mov (.t 8)),
 .o 33 (.bin .add (.t 32) (.c (.int .i64 1))),
 .o 8 (.mov (.t 33))])))))
def c_patoislaw4_KernelBegins : ACode :=
 .seq (.reg [.o 6 (.mov (.c (.bool false)))])
 (.keep [0, 1, 2] (.seq (.reg [.o 11 (.callF F_patoislaw4_first []),
 .o 7 (.mov (.t 11))])
 (.keep [0, 1, 2, 7] (.seq (.seq (.reg [.o 12 (.mov (.t 0)),
 .o 13 (.len false (.t 12)),
 .o 14 (.bin .gtr (.t 13) (.c (.int .i64 60))),
 .o 15 (.mov (.t 14)),
 .g (some 16) 15 false (.mov (.t 1)),
 .g (some 17) 15 false (.len false (.t 16)),
 .g (some 18) 15 false (.bin .gtr (.t 17) (.c (.int .i64 60))),
 .o 19 (.pick (.t 15) (.c (.bool true)) (.t 18)),
 .o 20 (.mov (.t 19)),
 .g (some 21) 20 false (.mov (.t 7)),
 .g (some 22) 20 false (.not (.t 21)),
 .o 23 (.pick (.t 20) (.c (.bool true)) (.t 22))])
 (.keep [0, 1, 2, 7, 23] (.cond (.t 23)
 (.seq (.reg [.o 24 (.mov (.t 7)),
 .o 6 (.mov (.t 24))])
 (.ret))
 (.skip))))
 (.keep [0, 1, 2] (.seq (.seq (.reg [.o 8 (.mov (.c (.int .i64 0)))])
 (.keep [0, 1, 2, 8] (.block 0 (.loop c_patoislaw4_KernelBegins_l0))))
 (.keep [0, 1, 2] (.seq (.reg [.o 63 (.mov (.t 2)),
 .o 64 (.bin .and (.t 63) (.c (.int .i64 63))),
 .o 65 (.mov (.t 0)),
 .o 66 (.len false (.t 65)),
 .o 67 (.minmax false (.t 64) (.t 66)),
 .o 2 (.mov (.t 67))])
 (.keep [0, 1, 2] (.seq (.reg [.o 68 (.mov (.t 0)),
 .o 69 (.callF F_world_Erase [(.t 68)]),
 .o 10 (.mov (.t 69))])
 (.keep [0, 1, 2, 10] (.seq (.reg [.o 70 (.mov (.t 0)),
 .o 71 (.mov (.t 1)),
 .o 72 (.callF F_world_Begins [(.t 70), (.t 71)]),
 .o 73 (.mov (.t 0)),
 .o 74 (.mov (.t 1)),
 .o 75 (.callF F_patoisref4_Begins [(.t 73), (.t 74)]),
 .o 76 (.eq false .bool (.t 72) (.t 75)),
 .o 77 (.mov (.t 76)),
 .g (some 78) 77 true (.mov (.t 0)),
 .g (some 79) 77 true (.mov (.t 2)),
 .g (some 80) 77 true (.slc 5 (.t 78) none (some (.t 79))),
 .g (some 81) 77 true (.mov (.t 0)),
 .g (some 82) 77 true (.callF F_world_Begins [(.t 80), (.t 81)]),
 .o 83 (.pick (.t 77) (.t 82) (.c (.bool false))),
 .o 84 (.mov (.t 83)),
 .g (some 85) 84 true (.mov (.t 0)),
 .g (some 86) 84 true (.mov (.t 1)),
 .g (some 87) 84 true (.callF F_world_SameEvents [(.t 85), (.t 86)]),
 .g (some 88) 84 true (.mov (.t 0)),
 .g (some 89) 84 true (.mov (.t 1)),
 .g (some 90) 84 true (.callF F_patoisref_SameEvents [(.t 88), (.t 89)]),
 .g (some 91) 84 true (.eq false .bool (.t 87) (.t 90)),
 .o 92 (.pick (.t 84) (.t 91) (.c (.bool false))),
 .o 93 (.mov (.t 92)),
 .g (some 94) 93 true (.mov (.t 10)),
 .g (some 95) 93 true (.mov (.t 0)),
 .g (some 96) 93 true (.callF F_patoisref4_Erase [(.t 95)]),
 .g (some 97) 93 true (.callF F_patoisref_SameEvents [(.t 94), (.t 96)]),
 .o 98 (.pick (.t 93) (.t 97) (.c (.bool false))),
 .o 99 (.mov (.t 98)),
 .g (some 100) 99 true (.mov (.t 10)),
 .g (some 101) 99 true (.callF F_world_Erase [(.t 100)]),
 .g (some 102) 99 true (.mov (.t 10)),
 .g (some 103) 99 true (.callF F_world_SameEvents [(.t 101), (.t 102)]),
 .o 104 (.pick (.t 99) (.t 103) (.c (.bool false))),
 .o 105 (.mov (.t 104)),
 .g (some 106) 105 true (.mov (.t 0)),
 .g (some 107) 105 true (.callF F_world_Begins [(.c (.sl none 5 0 (some 0))), (.t 106)]),
 .o 108 (.pick (.t 105) (.t 107) (.c (.bool false))),
 .o 6 (.mov (.t 108))])
 (.ret)))))))))))))
def a_patoislaw4_KernelBegins : AFun := ⟨3, c_patoislaw4_KernelBegins, [.tmp 6]⟩

/- patois/patoislaw4.first -/
def c_patoislaw4_first : ACode :=
 .seq (.reg [.o 0 (.mov (.c (.bool false)))])
 (.keep [] (.seq (.reg [.o 17 (.build [.str [], .str []] [(0, 1, (.c (.str [102]))), (1, 1, (.c (.str [120])))]),
 .o 18 (.bslice false 2 1 [.str [], .str []] [(0, 2, (.t 17))]),
 .o 19 (.build [.str [], .sl none 1 0 (some 0), .bool false, .bool false, .bool false, .str [], .int .i64 0] [(0, 1, (.c (.str [117, 112]))), (2, 1, (.c (.bool true))), (3, 1, (.c (.bool true))), (4, 1, (.c (.bool true))), (5, 1, (.c (.str [58])))]),
 .o 20 (.bslice false 7 1 [.str [], .sl none 1 0 (some 0), .bool false, .bool false, .bool false, .str [], .int .i64 0] [(0, 7, (.t 19))]),
 .o 21 (.build [.sl none 2 0 (some 0), .sl none 7 0 (some 0)] [(0, 1, (.t 18)), (1, 1, (.t 20))]),
 .o 22 (.callF F_world_New [(.t 21)]),
 .o 16 (.mov (.t 22)),
 .o 23 (.extract (.t 16) 0),
 .o 24 (.extract (.t 16) 1),
 .o 1 (.mov (.t 23)),
 .o 2 (.mov (.t 24))])
 (.keep [1, 2] (.seq (.seq (.reg [.o 25 (.mov (.t 1)),
 .o 26 (.eq false .ptr (.t 25) (.c (.ptr none))),
 .o 27 (.mov (.t 26)),
 .g (some 28) 27 false (.mov (.t 2)),
 .g (some 29) 27 false (.eq true .ifc (.t 28) (.c (.nilI))),
 .o 30 (.pick (.t 27) (.c (.bool true)) (.t 29))])
 (.keep [1, 30] (.cond (.t 30)
 (.seq (.reg [.o 0 (.mov (.c (.bool false)))])
 (.ret))
 (.skip))))
 (.keep [1] (.seq (.reg [.o 32 (.mov (.t 1)),
 .o 33 (.bslice false 1 1 [.str []] [(0, 1, (.c (.str [97])))]),
 .o 34 (.callF F_world_Kernel_Exec [(.t 32), (.c (.str [117, 112])), (.c (.str [104, 105])), (.t 33)]),
 .o 31 (.mov (.t 34)),
 .o 35 (.extract (.t 31) 0),
 .o 36 (.extract (.t 31) 1),
 .o 37 (.extract (.t 31) 2),
 .o 3 (.mov (.t 35)),
 .o 4 (.mov (.t 36)),
 .o 5 (.mov (.t 37))])
 (.keep [1, 3, 4, 5] (.seq (.reg [.o 39 (.mov (.t 1)),
 .o 40 (.callF F_world_Kernel_Exec [(.t 39), (.c (.str [110, 111])), (.c (.str [104, 105])), (.c (.sl none 1 0 (some 0)))]),
 .o 38 (.mov (.t 40)),
 .o 41 (.extract (.t 38) 0),
 .o 42 (.extract (.t 38) 1),
 .o 43 (.extract (.t 38) 2),
 .o 6 (.mov (.t 41)),
 .o 7 (.mov (.t 42)),
 .o 8 (.mov (.t 43))])
 (.keep [1, 3, 4, 5, 7, 8] (.seq (.reg [.o 45 (.mov (.t 1)),
 .o 46 (.callF F_world_Kernel_Open [(.t 45), (.c (.str [102])), (.c (.int .i64 1))]),
 .o 44 (.mov (.t 46)),
 .o 47 (.extract (.t 44) 0),
 .o 48 (.extract (.t 44) 1),
 .o 9 (.mov (.t 47)),
 .o 10 (.mov (.t 48))])
 (.keep [1, 3, 4, 5, 7, 8, 9, 10] (.seq (.reg [.o 50 (.mov (.t 1)),
 .o 51 (.callF F_world_Kernel_Open [(.t 50), (.c (.str [103])), (.c (.int .i64 1))]),
 .o 49 (.mov (.t 51)),
 .o 52 (.extract (.t 49) 0),
 .o 53 (.extract (.t 49) 1),
 .o 11 (.mov (.t 52)),
 .o 12 (.mov (.t 53))])
 (.keep [1, 3, 4, 5, 7, 8, 9, 10, 12] (.seq (.reg [.o 55 (.mov (.t 1)),
 .o 56 (.callF F_world_Kernel_Open [(.t 55), (.c (.str [103])), (.c (.int .i64 2))]),
 .o 54 (.mov (.t 56)),
 .o 57 (.extract (.t 54) 0),
 .o 58 (.extract (.t 54) 1),
 .o 13 (.mov (.t 57)),
 .o 14 (.mov (.t 58))])
 (.keep [1, 3, 4, 5, 7, 8, 9, 10, 12, 14] (.seq (.reg [.o 59 (.mov (.t 1)),
 .o 60 (.callF F_world_Kernel_Write [(.t 59), (.c (.str [103])), (.c (.str [121]))]),
 .o 15 (.mov (.t 60))])
 (.keep [1, 3, 4, 5, 7, 8, 9, 10, 12, 14, 15] (.seq (.reg [.o 61 (.mov (.t 3)),
 .o 62 (.bin .eql (.t 61) (.c (.str [58, 104, 105]))),
 .o 63 (.mov (.t 62)),
 .g (some 64) 63 true (.mov (.t 4)),
 .g (some 65) 63 true (.bin .eql (.t 64) (.c (.int .i64 0))),
 .o 66 (.pick (.t 63) (.t 65) (.c (.bool false))),
 .o 67 (.mov (.t 66)),
 .g (some 68) 67 true (.mov (.t 5)),
 .o 69 (.pick (.t 67) (.t 68) (.c (.bool false))),
 .o 70 (.mov (.t 69)),
 .g (some 71) 70 true (.mov (.t 7)),
 .g (some 72) 70 true (.bin .eql (.t 71) (.c (.int .i64 127))),
 .o 73 (.pick (.t 70) (.t 72) (.c (.bool false))),
 .o 74 (.mov (.t 73)),
 .g (some 75) 74 true (.mov (.t 8)),
 .g (some 76) 74 true (.not (.t 75)),
 .o 77 (.pick (.t 74) (.t 76) (.c (.bool false))),
 .o 78 (.mov (.t 77)),
 .g (some 79) 78 true (.mov (.t 9)),
 .g (some 80) 78 true (.bin .eql (.t 79) (.c (.str [120]))),
 .o 81 (.pick (.t 78) (.t 80) (.c (.bool false))),
 .o 82 (.mov (.t 81)),
 .g (some 83) 82 true (.mov (.t 10)),
 .o 84 (.pick (.t 82) (.t 83) (.c (.bool false))),
 .o 85 (.mov (.t 84)),
 .g (some 86) 85 true (.mov (.t 12)),
 .g (some 87) 85 true (.not (.t 86)),
 .o 88 (.pick (.t 85) (.t 87) (.c (.bool false))),
 .o 89 (.mov (.t 88)),
 .g (some 90) 89 true (.mov (.t 14)),
 .o 91 (.pick (.t 89) (.t 90) (.c (.bool false))),
 .o 92 (.mov (.t 91)),
 .g (some 93) 92 true (.mov (.t 15)),
 .g (some 94) 92 true (.eq false .ifc (.t 93) (.c (.nilI))),
 .o 95 (.pick (.t 92) (.t 94) (.c (.bool false))),
 .o 96 (.mov (.t 95)),
 .g (some 97) 96 true (.mov (.t 1)),
 .g (some 98) 96 true (.callF F_world_Kernel_Files [(.t 97)]),
 .g (some 99) 96 true (.build [.str [], .str []] [(0, 1, (.c (.str [102]))), (1, 1, (.c (.str [120])))]),
 .g (some 100) 96 true (.build [.str [], .str []] [(0, 1, (.c (.str [103]))), (1, 1, (.c (.str [121])))]),
 .g (some 101) 96 true (.bslice false 2 2 [.str [], .str [], .str [], .str []] [(0, 2, (.t 99)), (2, 2, (.t 100))]),
 .g (some 102) 96 true (.callF F_patoisref_SameFiles [(.t 98), (.t 101)]),
 .o 103 (.pick (.t 96) (.t 102) (.c (.bool false))),
 .o 104 (.mov (.t 103)),
 .g (some 105) 104 true (.mov (.t 1)),
 .g (some 106) 104 true (.nilchk (.t 105)),
 .g (some 107) 104 true (.fieldA 0 (.t 106)),
 .g (some 108) 104 true (.callF F_world_asked_Len [(.t 107)]),
 .g (some 109) 104 true (.bin .eql (.t 108) (.c (.int .i64 6))),
 .o 110 (.pick (.t 104) (.t 109) (.c (.bool false))),
 .o 111 (.mov (.t 110)),
 .g (some 112) 111 true (.mov (.t 1)),
 .g (some 113) 111 true (.callF F_world_Kernel_Reads [(.t 112), (.c (.str [117, 112])), (.c (.sl none 1 0 (some 0)))]),
 .o 114 (.pick (.t 111) (.t 113) (.c (.bool false))),
 .o 115 (.mov (.t 114)),
 .g (some 116) 115 true (.mov (.t 1)),
 .g (some 117) 115 true (.callF F_world_Kernel_Reads [(.t 116), (.c (.str [110, 111])), (.c (.sl none 1 0 (some 0)))]),
 .g (some 118) 115 true (.not (.t 117)),
 .o 119 (.pick (.t 115) (.t 118) (.c (.bool false))),
 .o 0 (.mov (.t 119))])
 (.ret)))))))))))))))))))
def a_patoislaw4_first : AFun := ⟨0, c_patoislaw4_first, [.tmp 0]⟩

/- patois/world.New -/
def c_world_New_l0 : ACode :=
 .keep [5, 24, 25, 26] (.seq (.reg [.o 27 (.bin .lss (.t 26) (.t 25))])
 (.keep [5, 24, 25, 26, 27] (.seq (.cond (.t 27)
 (.skip)
 (.exit 0))
 (.keep [5, 24, 25, 26] (.seq (.block 1 (.seq (.reg [.o 28 (.indexA 7 (.t 24) (.t 26)),
 .o 29 (.load 7 true (.t 28)),
 .o 7 (.alloc [.str [], .sl none 1 0 (some 0), .bool false, .bool false, .bool false, .str [], .int .i64 0]),
 .n (.store 7 (.t 7) (.t 29))])
 (.keep [5, 7, 24, 25, 26] (.seq (.reg [.o 30 (.fieldA 1 (.t 7)),
 .o 31 (.load 1 false (.t 30)),
 .o 32 (.callF F_slices_Clone_string_string [(.t 31)]),
 .o 33 (.fieldA 1 (.t 7)),
 .n (.store 1 (.t 33) (.t 32))])
 (.keep [5, 7, 24, 25, 26] (.dreg [⟨0, .o 34 (.mov (.t 5)), [], []⟩,
 ⟨1, .o 35 (.mov (.t 5)), [], []⟩,
 ⟨2, .o 36 (.nilchk (.t 35)), [1], []⟩,
 ⟨3, .o 37 (.fieldA 2 (.t 36)), [1, 2], []⟩,
 ⟨4, .o 38 (.load 1 false (.t 37)), [1, 2, 3], []⟩,
 ⟨5, .o 39 (.load 7 true (.t 7)), [], []⟩,
 ⟨6, .o 40 (.bslice false 7 1 [.str [], .sl none 1 0 (some 0), .bool false, .bool false, .bool false, .str [], .int .i64 0] [(0, 7, (.t 39))]), [5], []⟩,
 ⟨7, .o 41 (.append true 7 72 (.t 38) (.t 40)), [1, 2, 3, 4, 5, 6], []⟩,
 ⟨8, .o 42 (.nilchk (.t 34)), [0, 1, 2, 3, 4, 5, 6, 7], []⟩,
 ⟨9, .o 43 (.fieldA 2 (.t 42)), [0, 1, 2, 3, 4, 5, 6, 7, 8], []⟩,
 ⟨10, .n (.store 1 (.t 43) (.t 41)), [0, 1, 2, 3, 4, 5, 6, 7, 8, 9], []⟩]))))))
 (.keep [5, 24, 25, 26] (.reg [.o 44 (.bin .add (.t 26) (.c (.int .i64 1))),
 .o 26 (.mov (.t 44))])))))))
def c_world_New : ACode :=
 .seq (.reg [.o 1 (.box (.t 0)),
 .o 2 (.mov (.c (.ptr none))),
 .o 3 (.mov (.c (.nilI)))])
 (.keep [1] (.seq (.seq (.reg [.o 8 (.load 2 true (.t 1)),
 .o 9 (.callF F_world_May [(.t 8)]),
 .o 4 (.mov (.t 9))])
 (.keep [1, 4] (.seq (.reg [.o 10 (.mov (.t 4)),
 .o 11 (.eq true .ifc (.t 10) (.c (.nilI)))])
 (.keep [1, 4, 11] (.cond (.t 11)
 (.seq (.reg [.o 12 (.mov (.t 4)),
 .o 2 (.mov (.c (.ptr none))),
 .o 3 (.mov (.t 12))])
 (.ret))
 (.skip))))))
 (.keep [1] (.seq (.reg [.o 13 (.fieldA 0 (.t 1)),
 .o 14 (.load 1 false (.t 13)),
 .o 15 (.callF F_slices_Clone_api_File_api_File [(.t 14)]),
 .o 16 (.build [.sl none 5 0 (some 0), .sl none 2 0 (some 0), .sl none 7 0 (some 0)] [(1, 1, (.t 15))]),
 .o 17 (.box (.t 16)),
 .o 5 (.mov (.t 17))])
 (.keep [1, 5] (.seq (.reg [.o 18 (.mov (.t 5)),
 .o 19 (.nilchk (.t 18)),
 .o 20 (.fieldA 1 (.t 19)),
 .o 21 (.load 1 false (.t 20)),
 .o 22 (.callF F_slices_SortFunc_api_File_api_File [(.t 21), (.f F_world_byName)])])
 (.keep [1, 5] (.seq (.seq (.reg [.o 23 (.fieldA 1 (.t 1)),
 .o 24 (.load 1 false (.t 23)),
 .o 25 (.len false (.t 24)),
 .o 26 (.mov (.c (.int .i64 0)))])
 (.keep [5, 24, 25, 26] (.block 0 (.loop c_world_New_l0))))
 (.keep [5] (.seq (.reg [.o 45 (.mov (.t 5)),
 .o 2 (.mov (.t 45)),
 .o 3 (.mov (.c (.nilI)))])
 (.ret)))))))))))
def a_world_New : AFun := ⟨1, c_world_New, [.tmp 2, .tmp 3]⟩

/- (*patois/world.Kernel).Open -/
def c_world_Kernel_Open : ACode :=
 .seq (.reg [.o 6 (.mov (.c (.str []))),
 .o 7 (.mov (.c (.bool false)))])
 (.keep [0, 1, 2] (.seq (.reg [.o 8 (.mov (.c (.str [])))])
 (.keep [0, 1, 2, 8] (.seq (.seq (.reg [.o 12 (.mov (.t 2))])
 (.keep [0, 1, 2, 8, 12] (.block 0 (.seq (.reg [.o 14 (.bin .eql (.t 12) (.c (.int .i64 1))),
 .o 13 (.mov (.t 14))])
 (.keep [0, 1, 2, 8, 12, 13] (.cond (.t 13)
 (.seq (.reg [.o 16 (.mov (.t 0)),
 .o 17 (.mov (.t 1)),
 .o 18 (.callF F_world_Kernel_file [(.t 16), (.t 17)]),
 .o 15 (.mov (.t 18)),
 .o 19 (.extract (.t 15) 0),
 .o 20 (.extract (.t 15) 1),
 .o 9 (.mov (.t 19)),
 .o 10 (.mov (.t 20))])
 (.keep [0, 1, 2, 9, 10] (.seq (.seq (.reg [.o 21 (.mov (.t 10)),
 .o 22 (.not (.t 21))])
 (.keep [0, 1, 2, 9, 22] (.cond (.t 22)
 (.seq (.reg [.o 23 (.mov (.t 0)),
 .o 24 (.nilchk (.t 23)),
 .o 25 (.fieldA 0 (.t 24)),
 .o 26 (.mov (.t 1)),
 .o 27 (.build [.int .i64 0, .int .i64 0, .str [], .str [], .sl none 1 0 (some 0)] [(0, 1, (.c (.int .i64 2))), (1, 1, (.c (.int .i64 4))), (2, 1, (.t 26))]),
 .o 28 (.callF F_world_asked_note [(.t 25), (.t 27)])])
 (.keep [] (.seq (.reg [.o 6 (.mov (.c (.str []))),
 .o 7 (.mov (.c (.bool false)))])
 (.ret))))
 (.skip))))
 (.keep [0, 1, 2, 9] (.reg [.o 29 (.mov (.t 0)),
 .o 30 (.nilchk (.t 29)),
 .o 31 (.fieldA 1 (.t 30)),
 .o 32 (.load 1 false (.t 31)),
 .o 33 (.mov (.t 9)),
 .o 34 (.indexA 2 (.t 32) (.t 33)),
 .o 35 (.fieldA 1 (.t 34)),
 .o 36 (.load 1 false (.t 35)),
 .o 8 (.mov (.t 36))])))))
 (.seq (.reg [.o 38 (.bin .eql (.t 12) (.c (.int .i64 2))),
 .o 37 (.mov (.t 38))])
 (.keep [0, 1, 2, 8, 12, 37] (.cond (.t 37)
 (.seq (.reg [.o 39 (.mov (.t 0)),
 .o 40 (.mov (.t 1)),
 .o 41 (.callF F_world_Kernel_made [(.t 39), (.t 40)]),
 .o 11 (.mov (.t 41))])
 (.keep [0, 1, 2, 8, 11] (.reg [.o 42 (.mov (.t 0)),
 .o 43 (.nilchk (.t 42)),
 .o 44 (.fieldA 1 (.t 43)),
 .o 45 (.load 1 false (.t 44)),
 .o 46 (.mov (.t 11)),
 .o 47 (.indexA 2 (.t 45) (.t 46)),
 .o 48 (.fieldA 1 (.t 47)),
 .n (.store 1 (.t 48) (.c (.str [])))])))
 (.seq (.reg [.o 50 (.bin .eql (.t 12) (.c (.int .i64 3))),
 .o 49 (.mov (.t 50))])
 (.keep [0, 1, 2, 8, 49] (.cond (.t 49)
 (.reg [.o 51 (.mov (.t 0)),
 .o 52 (.mov (.t 1)),
 .o 53 (.callF F_world_Kernel_made [(.t 51), (.t 52)])])
 (.seq (.reg [.o 6 (.mov (.c (.str []))),
 .o 7 (.mov (.c (.bool false)))])
 (.ret))))))))))))))
 (.keep [0, 1, 2, 8] (.seq (.reg [.o 54 (.mov (.t 0)),
 .o 55 (.nilchk (.t 54)),
 .o 56 (.fieldA 0 (.t 55)),
 .o 57 (.mov (.t 2)),
 .o 58 (.mov (.t 1)),
 .o 59 (.build [.int .i64 0, .int .i64 0, .str [], .str [], .sl none 1 0 (some 0)] [(0, 1, (.c (.int .i64 2))), (1, 1, (.t 57)), (2, 1, (.t 58))]),
 .o 60 (.callF F_world_asked_note [(.t 56), (.t 59)])])
 (.keep [8] (.seq (.reg [.o 61 (.mov (.t 8)),
 .o 6 (.mov (.t 61)),
 .o 7 (.mov (.c (.bool true)))])
 (.ret)))))))))
def a_world_Kernel_Open : AFun := ⟨3, c_world_Kernel_Open, [.tmp 6, .tmp 7]⟩

/- (*patois/world.Kernel).Write -/
def c_world_Kernel_Write : ACode :=
 .seq (.reg [.o 6 (.mov (.c (.nilI)))])
 (.keep [0, 1, 2] (.seq (.seq (.reg [.o 9 (.mov (.t 2)),
 .o 10 (.bin .eql (.t 9) (.c (.str [])))])
 (.keep [0, 1, 2, 10] (.cond (.t 10)
 (.seq (.reg [.o 6 (.mov (.c (.nilI)))])
 (.ret))
 (.skip))))
 (.keep [0, 1, 2] (.seq (.seq (.reg [.o 11 (.mov (.t 1)),
 .o 12 (.bin .neq (.t 11) (.c (.str [])))])
 (.keep [0, 1, 2, 12] (.cond (.t 12)
 (.seq (.reg [.o 14 (.mov (.t 0)),
 .o 15 (.mov (.t 1)),
 .o 16 (.callF F_world_Kernel_file [(.t 14), (.t 15)]),
 .o 13 (.mov (.t 16)),
 .o 17 (.extract (.t 13) 0),
 .o 18 (.extract (.t 13) 1),
 .o 7 (.mov (.t 17)),
 .o 8 (.mov (.t 18))])
 (.keep [0, 1, 2, 7, 8] (.seq (.seq (.reg [.o 19 (.mov (.t 2)),
 .o 20 (.len true (.t 19)),
 .o 21 (.bin .gtr (.t 20) (.c (.int .i64 16384))),
 .o 22 (.mov (.t 21)),
 .g (some 23) 22 false (.mov (.t 8)),
 .g (some 24) 22 false (.mov (.t 23)),
 .g (some 25) 24 true (.mov (.t 2)),
 .g (some 26) 24 true (.len true (.t 25)),
 .g (some 27) 24 true (.mov (.t 0)),
 .g (some 28) 24 true (.nilchk (.t 27)),
 .g (some 29) 24 true (.fieldA 1 (.t 28)),
 .g (some 30) 24 true (.load 1 false (.t 29)),
 .g (some 31) 24 true (.mov (.t 7)),
 .g (some 32) 24 true (.indexA 2 (.t 30) (.t 31)),
 .g (some 33) 24 true (.fieldA 1 (.t 32)),
 .g (some 34) 24 true (.load 1 false (.t 33)),
 .g (some 35) 24 true (.len true (.t 34)),
 .g (some 36) 24 true (.bin .sub (.c (.int .i64 16384)) (.t 35)),
 .g (some 37) 24 true (.bin .gtr (.t 26) (.t 36)),
 .g (some 38) 22 false (.pick (.t 24) (.t 37) (.c (.bool false))),
 .o 39 (.pick (.t 22) (.c (.bool true)) (.t 38))])
 (.keep [0, 1, 2, 39] (.cond (.t 39)
 (.seq (.reg [.o 40 (.load 1 false (.g G_api_ErrBig)),
 .o 6 (.mov (.t 40))])
 (.ret))
 (.skip))))
 (.keep [0, 1, 2] (.seq (.reg [.o 41 (.mov (.t 0)),
 .o 42 (.mov (.t 1)),
 .o 43 (.callF F_world_Kernel_made [(.t 41), (.t 42)]),
 .o 7 (.mov (.t 43))])
 (.keep [0, 1, 2, 7] (.reg [.o 44 (.mov (.t 0)),
 .o 45 (.nilchk (.t 44)),
 .o 46 (.fieldA 1 (.t 45)),
 .o 47 (.load 1 false (.t 46)),
 .o 48 (.mov (.t 7)),
 .o 49 (.indexA 2 (.t 47) (.t 48)),
 .o 50 (.fieldA 1 (.t 49)),
 .o 51 (.load 1 false (.t 50)),
 .o 52 (.mov (.t 2)),
 .o 53 (.bin .add (.t 51) (.t 52)),
 .o 54 (.indexA 2 (.t 47) (.t 48)),
 .o 55 (.fieldA 1 (.t 54)),
 .n (.store 1 (.t 55) (.t 53))])))))))
 (.skip))))
 (.keep [0, 1, 2] (.seq (.reg [.o 56 (.mov (.t 0)),
 .o 57 (.nilchk (.t 56)),
 .o 58 (.fieldA 0 (.t 57)),
 .o 59 (.mov (.t 1)),
 .o 60 (.mov (.t 2)),
 .o 61 (.build [.int .i64 0, .int .i64 0, .str [], .str [], .sl none 1 0 (some 0)] [(0, 1, (.c (.int .i64 3))), (2, 1, (.t 59)), (3, 1, (.t 60))]),
 .o 62 (.callF F_world_asked_note [(.t 58), (.t 61)])])
 (.keep [] (.seq (.reg [.o 6 (.mov (.c (.nilI)))])
 (.ret)))))))))
def a_world_Kernel_Write : AFun := ⟨3, c_world_Kernel_Write, [.tmp 6]⟩

/- (*patois/world.Kernel).Names -/
def c_world_Kernel_Names_l0 : ACode :=
 .keep [3, 9, 10, 11] (.seq (.reg [.o 12 (.bin .lss (.t 11) (.t 10))])
 (.keep [3, 9, 10, 11, 12] (.seq (.cond (.t 12)
 (.skip)
 (.exit 0))
 (.keep [3, 9, 10, 11] (.seq (.block 1 (.seq (.reg [.o 13 (.indexA 2 (.t 9) (.t 11)),
 .o 14 (.load 2 true (.t 13)),
 .o 5 (.alloc [.str [], .str []]),
 .n (.store 2 (.t 5) (.t 14))])
 (.keep [3, 5, 9, 10, 11] (.reg [.o 15 (.mov (.t 3)),
 .o 16 (.fieldA 0 (.t 5)),
 .o 17 (.load 1 false (.t 16)),
 .o 18 (.bslice false 1 1 [.str []] [(0, 1, (.t 17))]),
 .o 19 (.append true 1 16 (.t 15) (.t 18)),
 .o 3 (.mov (.t 19))]))))
 (.keep [3, 9, 10, 11] (.reg [.o 20 (.bin .add (.t 11) (.c (.int .i64 1))),
 .o 11 (.mov (.t 20))])))))))
def c_world_Kernel_Names : ACode :=
 .seq (.reg [.o 2 (.mov (.c (.sl none 1 0 (some 0))))])
 (.keep [0] (.seq (.reg [.o 3 (.mov (.c (.sl none 1 0 (some 0))))])
 (.keep [0, 3] (.seq (.seq (.reg [.o 6 (.mov (.t 0)),
 .o 7 (.nilchk (.t 6)),
 .o 8 (.fieldA 1 (.t 7)),
 .o 9 (.load 1 false (.t 8)),
 .o 10 (.len false (.t 9)),
 .o 11 (.mov (.c (.int .i64 0)))])
 (.keep [3, 9, 10, 11] (.block 0 (.loop c_world_Kernel_Names_l0))))
 (.keep [3] (.seq (.reg [.o 21 (.mov (.t 3)),
 .o 2 (.mov (.t 21))])
 (.ret)))))))
def a_world_Kernel_Names : AFun := ⟨1, c_world_Kernel_Names, [.tmp 2]⟩

/- patois/patoisref.Texts -/
def c_patoisref_Texts_l0 : ACode :=
 .keep [0, 3, 4] (.seq (.seq (.reg [.o 8 (.mov (.t 4)),
 .o 9 (.mov (.t 0)),
 .o 10 (.len false (.t 9)),
 .o 11 (.bin .lss (.t 8) (.t 10))])
 (.keep [0, 3, 4, 11] (.cond (.t 11)
 (.skip)
 (.exit 0))))
 (.keep [0, 3, 4] (.seq (.block 1 (.reg [.o 14 (.mov (.t 3)),
 .o 15 (.mov (.t 0)),
 .o 16 (.mov (.t 4)),
 .o 17 (.indexA 1 (.t 15) (.t 16)),
 .o 18 (.load 1 false (.t 17)),
 .o 19 (.bslice false 1 1 [.str []] [(0, 1, (.t 18))]),
 .o 20 (.append true 1 16 (.t 14) (.t 19)),
 .o 3 (.mov (.t 20))]))
 (.keep [0, 3, 4] (.reg [.o 12 (.mov (.t 4)),
 .o 13 (.bin .add (.t 12) (.c (.int .i64 1))),
 .o 4 (.mov (.t 13))])))))
def c_patoisref_Texts : ACode :=
 .seq (.reg [.o 2 (.mov (.c (.sl none 1 0 (some 0))))])
 (.keep [0] (.seq (.reg [.o 5 (.mov (.t 0)),
 .o 6 (.len false (.t 5)),
 .o 7 (.mkSlice false 1 16 [.str []] (.c (.int .i64 0)) (.t 6)),
 .o 3 (.mov (.t 7))])
 (.keep [0, 3] (.seq (.seq (.reg [.o 4 (.mov (.c (.int .i64 0)))])
 (.keep [0, 3, 4] (.block 0 (.loop c_patoisref_Texts_l0))))
 (.keep [3] (.seq (.reg [.o 21 (.mov (.t 3)),
 .o 2 (.mov (.t 21))])
 (.ret)))))))
def a_patoisref_Texts : AFun := ⟨1, c_patoisref_Texts, [.tmp 2]⟩

/- (*patois/world.Kernel).Exec -/
def c_world_Kernel_Exec : ACode :=
 .seq (.reg [.o 8 (.mov (.c (.str []))),
 .o 9 (.mov (.c (.int .i64 0))),
 .o 10 (.mov (.c (.bool false)))])
 (.keep [0, 1, 2, 3] (.seq (.reg [.o 16 (.mov (.t 0)),
 .o 17 (.mov (.t 1)),
 .o 18 (.mov (.t 3)),
 .o 19 (.callF F_world_Kernel_row [(.t 16), (.t 17), (.t 18)]),
 .o 15 (.mov (.t 19)),
 .o 20 (.extract (.t 15) 0),
 .o 21 (.extract (.t 15) 1),
 .o 11 (.alloc [.str [], .sl none 1 0 (some 0), .bool false, .bool false, .bool false, .str [], .int .i64 0]),
 .n (.store 7 (.t 11) (.t 20)),
 .o 12 (.mov (.t 21))])
 (.keep [0, 1, 2, 3, 11, 12] (.seq (.dreg [⟨0, .o 22 (.fieldA 6 (.t 11)), [], []⟩,
 ⟨1, .o 23 (.load 1 false (.t 22)), [0], []⟩,
 ⟨2, .o 24 (.mov (.t 1)), [], []⟩,
 ⟨3, .o 25 (.mov (.t 3)), [], []⟩,
 ⟨6, .o 13 (.alloc [.int .i64 0, .int .i64 0, .str [], .str [], .sl none 1 0 (some 0)]), [], []⟩,
 ⟨4, .o 26 (.callF F_slices_Clone_string_string [(.t 25)]), [3], [1]⟩,
 ⟨5, .o 27 (.build [.int .i64 0, .int .i64 0, .str [], .str [], .sl none 1 0 (some 0)] [(0, 1, (.c (.int .i64 1))), (1, 1, (.t 23)), (2, 1, (.t 24)), (4, 1, (.t 26))]), [0, 1, 2, 3, 4], []⟩,
 ⟨7, .n (.store 5 (.t 13) (.t 27)), [0, 1, 2, 3, 4, 5, 6], []⟩])
 (.keep [0, 2, 11, 12, 13] (.seq (.seq (.reg [.o 28 (.fieldA 3 (.t 11)),
 .o 29 (.load 1 false (.t 28))])
 (.keep [0, 2, 11, 12, 13, 29] (.cond (.t 29)
 (.reg [.o 30 (.mov (.t 2)),
 .o 31 (.fieldA 3 (.t 13)),
 .n (.store 1 (.t 31) (.t 30))])
 (.skip))))
 (.keep [0, 2, 11, 12, 13] (.seq (.dreg [⟨0, .o 32 (.mov (.t 0)), [], []⟩,
 ⟨1, .o 33 (.nilchk (.t 32)), [0], []⟩,
 ⟨2, .o 34 (.fieldA 0 (.t 33)), [0, 1], []⟩,
 ⟨3, .o 35 (.load 5 true (.t 13)), [], []⟩,
 ⟨4, .o 36 (.callF F_world_asked_note [(.t 34), (.t 35)]), [0, 1, 2, 3], []⟩])
 (.keep [2, 11, 12] (.seq (.reg [.o 37 (.fieldA 5 (.t 11)),
 .o 38 (.load 1 false (.t 37)),
 .o 14 (.mov (.t 38))])
 (.keep [2, 11, 12, 14] (.seq (.seq (.reg [.o 39 (.fieldA 4 (.t 11)),
 .o 40 (.load 1 false (.t 39))])
 (.keep [2, 11, 12, 14, 40] (.cond (.t 40)
 (.reg [.o 41 (.mov (.t 14)),
 .o 42 (.mov (.t 2)),
 .o 43 (.bin .add (.t 41) (.t 42)),
 .o 14 (.mov (.t 43))])
 (.skip))))
 (.keep [11, 12, 14] (.seq (.dreg [⟨0, .o 44 (.mov (.t 14)), [], []⟩,
 ⟨1, .o 45 (.fieldA 6 (.t 11)), [], []⟩,
 ⟨2, .o 46 (.load 1 false (.t 45)), [1], []⟩,
 ⟨3, .o 47 (.mov (.t 12)), [], []⟩,
 ⟨4, .o 8 (.mov (.t 44)), [0], []⟩,
 ⟨5, .o 9 (.mov (.t 46)), [0, 1, 2, 4], []⟩,
 ⟨6, .o 10 (.mov (.t 47)), [0, 1, 2, 3, 4, 5], []⟩])
 (.ret)))))))))))))))
def a_world_Kernel_Exec : AFun := ⟨4, c_world_Kernel_Exec, [.tmp 8, .tmp 9, .tmp 10]⟩

/- (*patois/world.asked).Trace -/
def c_world_asked_Trace : ACode :=
 .seq (.reg [.o 2 (.mov (.c (.sl none 5 0 (some 0))))])
 (.keep [0] (.seq (.reg [.o 3 (.mov (.t 0)),
 .o 4 (.nilchk (.t 3)),
 .o 5 (.fieldA 0 (.t 4)),
 .o 6 (.load 1 false (.t 5)),
 .o 7 (.callF F_world_copied [(.t 6)]),
 .o 2 (.mov (.t 7))])
 (.ret)))
def a_world_asked_Trace : AFun := ⟨1, c_world_asked_Trace, [.tmp 2]⟩

/- (*patois/world.Kernel).Files -/
def c_world_Kernel_Files : ACode :=
 .seq (.reg [.o 2 (.mov (.c (.sl none 2 0 (some 0))))])
 (.keep [0] (.seq (.reg [.o 3 (.mov (.t 0)),
 .o 4 (.nilchk (.t 3)),
 .o 5 (.fieldA 1 (.t 4)),
 .o 6 (.load 1 false (.t 5)),
 .o 7 (.callF F_slices_Clone_api_File_api_File [(.t 6)]),
 .o 2 (.mov (.t 7))])
 (.ret)))
def a_world_Kernel_Files : AFun := ⟨1, c_world_Kernel_Files, [.tmp 2]⟩

/- patois/patoisref.SameTexts -/
def c_patoisref_SameTexts_l0 : ACode :=
 .keep [0, 1, 5] (.seq (.seq (.reg [.o 12 (.mov (.t 5)),
 .o 13 (.mov (.t 0)),
 .o 14 (.len false (.t 13)),
 .o 15 (.bin .lss (.t 12) (.t 14))])
 (.keep [0, 1, 5, 15] (.cond (.t 15)
 (.skip)
 (.exit 0))))
 (.keep [0, 1, 5] (.seq (.block 1 (.seq (.dreg [⟨0, .o 18 (.mov (.t 0)), [], []⟩,
 ⟨1, .o 19 (.mov (.t 5)), [], []⟩,
 ⟨2, .o 20 (.indexA 1 (.t 18) (.t 19)), [0, 1], []⟩,
 ⟨3, .o 21 (.load 1 false (.t 20)), [0, 1, 2], []⟩,
 ⟨4, .o 22 (.mov (.t 1)), [], []⟩,
 ⟨5, .o 23 (.mov (.t 5)), [], []⟩,
 ⟨6, .o 24 (.indexA 1 (.t 22) (.t 23)), [4, 5], []⟩,
 ⟨7, .o 25 (.load 1 false (.t 24)), [4, 5, 6], []⟩,
 ⟨8, .o 26 (.bin .eql (.t 21) (.t 25)), [0, 1, 2, 3, 4, 5, 6, 7], []⟩,
 ⟨9, .o 6 (.mov (.t 26)), [0, 1, 2, 3, 4, 5, 6, 7, 8], []⟩])
 (.keep [0, 1, 5, 6] (.seq (.reg [.o 27 (.mov (.t 6)),
 .o 28 (.not (.t 27))])
 (.keep [0, 1, 5, 28] (.cond (.t 28)
 (.seq (.reg [.o 4 (.mov (.c (.bool false)))])
 (.ret))
 (.skip)))))))
 (.keep [0, 1, 5] (.reg [.o 16 (.mov (.t 5)),
 .o 17 (.bin .add (.t 16) (.c (.int .i64 1))),
 .o 5 (.mov (.t 17))])))))
def c_patoisref_SameTexts : ACode :=
 .seq (.reg [.o 4 (.mov (.c (.bool false)))])
 (.keep [0, 1] (.seq (.seq (.reg [.o 7 (.mov (.t 0)),
 .o 8 (.len false (.t 7)),
 .o 9 (.mov (.t 1)),
 .o 10 (.len false (.t 9)),
 .o 11 (.bin .neq (.t 8) (.t 10))])
 (.keep [0, 1, 11] (.cond (.t 11)
 (.seq (.reg [.o 4 (.mov (.c (.bool false)))])
 (.ret))
 (.skip))))
 (.keep [0, 1] (.seq (.seq (.reg [.o 5 (.mov (.c (.int .i64 0)))])
 (.keep [0, 1, 5] (.block 0 (.loop c_patoisref_SameTexts_l0))))
 (.keep [] (.seq (.reg [.o 4 (.mov (.c (.bool true)))])
 (.ret)))))))
def a_patoisref_SameTexts : AFun := ⟨2, c_patoisref_SameTexts, [.tmp 4]⟩

/- (*patois/world.Kernel).Reads -/
def c_world_Kernel_Reads : ACode :=
 .seq (.reg [.o 6 (.mov (.c (.bool false)))])
 (.keep [0, 1, 2] (.seq (.reg [.o 10 (.mov (.t 0)),
 .o 11 (.mov (.t 1)),
 .o 12 (.mov (.t 2)),
 .o 13 (.callF F_world_Kernel_row [(.t 10), (.t 11), (.t 12)]),
 .o 9 (.mov (.t 13)),
 .o 14 (.extract (.t 9) 0),
 .o 15 (.extract (.t 9) 1),
 .o 7 (.alloc [.str [], .sl none 1 0 (some 0), .bool false, .bool false, .bool false, .str [], .int .i64 0]),
 .n (.store 7 (.t 7) (.t 14)),
 .o 8 (.mov (.t 15))])
 (.keep [7, 8] (.seq (.reg [.o 16 (.mov (.t 8)),
 .o 17 (.mov (.t 16)),
 .g (some 18) 17 true (.fieldA 3 (.t 7)),
 .g (some 19) 17 true (.load 1 false (.t 18)),
 .o 20 (.pick (.t 17) (.t 19) (.c (.bool false))),
 .o 6 (.mov (.t 20))])
 (.ret)))))
def a_world_Kernel_Reads : AFun := ⟨3, c_world_Kernel_Reads, [.tmp 6]⟩

/- (*patois/world.asked).Mark -/
def c_world_asked_Mark : ACode :=
 .seq (.reg [.o 6 (.mov (.t 1)),
 .o 7 (.bin .eql (.t 6) (.c (.int .i64 4))),
 .o 8 (.mov (.t 7)),
 .g (some 9) 8 false (.mov (.t 1)),
 .g (some 10) 8 false (.bin .eql (.t 9) (.c (.int .i64 5))),
 .o 11 (.pick (.t 8) (.c (.bool true)) (.t 10)),
 .o 12 (.mov (.t 11)),
 .g (some 13) 12 false (.mov (.t 1)),
 .g (some 14) 12 false (.bin .eql (.t 13) (.c (.int .i64 6))),
 .o 15 (.pick (.t 12) (.c (.bool true)) (.t 14))])
 (.keep [0, 1, 2, 15] (.cond (.t 15)
 (.reg [.o 16 (.mov (.t 0)),
 .o 17 (.mov (.t 1)),
 .o 18 (.mov (.t 2)),
 .o 19 (.build [.int .i64 0, .int .i64 0, .str [], .str [], .sl none 1 0 (some 0)] [(0, 1, (.t 17)), (1, 1, (.t 18))]),
 .o 20 (.callF F_world_asked_note [(.t 16), (.t 19)])])
 (.skip)))
def a_world_asked_Mark : AFun := ⟨3, c_world_asked_Mark, []⟩

/- patois/patoisref.SameEvents -/
def c_patoisref_SameEvents_l0 : ACode :=
 .keep [0, 1, 5] (.seq (.seq (.reg [.o 12 (.mov (.t 5)),
 .o 13 (.mov (.t 0)),
 .o 14 (.len false (.t 13)),
 .o 15 (.bin .lss (.t 12) (.t 14))])
 (.keep [0, 1, 5, 15] (.cond (.t 15)
 (.skip)
 (.exit 0))))
 (.keep [0, 1, 5] (.seq (.block 1 (.seq (.dreg [⟨0, .o 18 (.mov (.t 0)), [], []⟩,
 ⟨1, .o 19 (.mov (.t 5)), [], []⟩,
 ⟨2, .o 20 (.indexA 5 (.t 18) (.t 19)), [0, 1], []⟩,
 ⟨3, .o 21 (.load 5 true (.t 20)), [0, 1, 2], []⟩,
 ⟨4, .o 22 (.mov (.t 1)), [], []⟩,
 ⟨5, .o 23 (.mov (.t 5)), [], []⟩,
 ⟨6, .o 24 (.indexA 5 (.t 22) (.t 23)), [4, 5], []⟩,
 ⟨7, .o 25 (.load 5 true (.t 24)), [4, 5, 6], []⟩,
 ⟨8, .o 26 (.callF F_patoisref_SameEvent [(.t 21), (.t 25)]), [0, 1, 2, 3, 4, 5, 6, 7], []⟩,
 ⟨9, .o 6 (.mov (.t 26)), [0, 1, 2, 3, 4, 5, 6, 7, 8], []⟩])
 (.keep [0, 1, 5, 6] (.seq (.reg [.o 27 (.mov (.t 6)),
 .o 28 (.not (.t 27))])
 (.keep [0, 1, 5, 28] (.cond (.t 28)
 (.seq (.reg [.o 4 (.mov (.c (.bool false)))])
 (.ret))
 (.skip)))))))
 (.keep [0, 1, 5] (.reg [.o 16 (.mov (.t 5)),
 .o 17 (.bin .add (.t 16) (.c (.int .i64 1))),
 .o 5 (.mov (.t 17))])))))
def c_patoisref_SameEvents : ACode :=
 .seq (.reg [.o 4 (.mov (.c (.bool false)))])
 (.keep [0, 1] (.seq (.seq (.reg [.o 7 (.mov (.t 0)),
 .o 8 (.len false (.t 7)),
 .o 9 (.mov (.t 1)),
 .o 10 (.len false (.t 9)),
 .o 11 (.bin .neq (.t 8) (.t 10))])
 (.keep [0, 1, 11] (.cond (.t 11)
 (.seq (.reg [.o 4 (.mov (.c (.bool false)))])
 (.ret))
 (.skip))))
 (.keep [0, 1] (.seq (.seq (.reg [.o 5 (.mov (.c (.int .i64 0)))])
 (.keep [0, 1, 5] (.block 0 (.loop c_patoisref_SameEvents_l0))))
 (.keep [] (.seq (.reg [.o 4 (.mov (.c (.bool true)))])
 (.ret)))))))
def a_patoisref_SameEvents : AFun := ⟨2, c_patoisref_SameEvents, [.tmp 4]⟩

/- patois/world.Erase -/
def c_world_Erase : ACode :=
 .seq (.reg [.o 2 (.mov (.c (.sl none 5 0 (some 0))))])
 (.keep [0] (.seq (.reg [.o 3 (.mov (.t 0)),
 .o 4 (.callF F_world_copied [(.t 3)]),
 .o 5 (.callF F_slices_DeleteFunc_api_Event_api_Event [(.t 4), (.f F_world_Erase_1)]),
 .o 2 (.mov (.t 5))])
 (.ret)))
def a_world_Erase : AFun := ⟨1, c_world_Erase, [.tmp 2]⟩

/- (*patois/world.asked).Len -/
def c_world_asked_Len : ACode :=
 .seq (.reg [.o 2 (.mov (.c (.int .i64 0)))])
 (.keep [0] (.seq (.reg [.o 3 (.mov (.t 0)),
 .o 4 (.nilchk (.t 3)),
 .o 5 (.fieldA 0 (.t 4)),
 .o 6 (.load 1 false (.t 5)),
 .o 7 (.len false (.t 6)),
 .o 2 (.mov (.t 7))])
 (.ret)))
def a_world_asked_Len : AFun := ⟨1, c_world_asked_Len, [.tmp 2]⟩

/- patois/patoislaw4.light -/
def c_patoislaw4_light_l0 : ACode :=
 .keep [1, 3, 4] (.seq (.seq (.reg [.o 7 (.mov (.t 4)),
 .o 8 (.fieldA 0 (.t 1)),
 .o 9 (.load 1 false (.t 8)),
 .o 10 (.len false (.t 9)),
 .o 11 (.bin .lss (.t 7) (.t 10)),
 .o 12 (.mov (.t 11)),
 .g (some 13) 12 true (.mov (.t 4)),
 .g (some 14) 12 true (.bin .leq (.t 13) (.c (.int .i64 60))),
 .o 15 (.pick (.t 12) (.t 14) (.c (.bool false)))])
 (.keep [1, 3, 4, 15] (.cond (.t 15)
 (.skip)
 (.exit 0))))
 (.keep [1, 3, 4] (.seq (.block 1 (.dreg [⟨0, .o 18 (.mov (.t 3)), [], []⟩,
 ⟨1, .o 19 (.fieldA 0 (.t 1)), [], []⟩,
 ⟨2, .o 20 (.load 1 false (.t 19)), [1], []⟩,
 ⟨3, .o 21 (.mov (.t 4)), [], []⟩,
 ⟨4, .o 22 (.indexA 2 (.t 20) (.t 21)), [1, 2, 3], []⟩,
 ⟨5, .o 23 (.fieldA 0 (.t 22)), [1, 2, 3, 4], []⟩,
 ⟨6, .o 24 (.load 1 false (.t 23)), [1, 2, 3, 4, 5], []⟩,
 ⟨7, .o 25 (.len true (.t 24)), [1, 2, 3, 4, 5, 6], []⟩,
 ⟨8, .o 26 (.bin .add (.t 18) (.t 25)), [0, 1, 2, 3, 4, 5, 6, 7], []⟩,
 ⟨9, .o 27 (.fieldA 0 (.t 1)), [], []⟩,
 ⟨10, .o 28 (.load 1 false (.t 27)), [9], []⟩,
 ⟨11, .o 29 (.mov (.t 4)), [], []⟩,
 ⟨12, .o 30 (.indexA 2 (.t 28) (.t 29)), [9, 10, 11], []⟩,
 ⟨13, .o 31 (.fieldA 1 (.t 30)), [9, 10, 11, 12], []⟩,
 ⟨14, .o 32 (.load 1 false (.t 31)), [9, 10, 11, 12, 13], []⟩,
 ⟨15, .o 33 (.len true (.t 32)), [9, 10, 11, 12, 13, 14], []⟩,
 ⟨16, .o 34 (.bin .add (.t 26) (.t 33)), [0, 1, 2, 3, 4, 5, 6, 7, 8, 9, 10, 11, 12, 13, 14, 15], []⟩,
 ⟨17, .o 3 (.mov (.t 34)), [0, 1, 2, 3, 4, 5, 6, 7, 8, 9, 10, 11, 12, 13, 14, 15, 16], []⟩]))
 (.keep [1, 3, 4] (.reg [.o 16 (.mov (.t 4)),
 .o 17 (.bin .add (.t 16) (.c (.int .i64 1))),
 .o 4 (.mov (.t 17))])))))
def c_patoislaw4_light_l1 : ACode :=
 .keep [1, 3, 5, 6] (.seq (.seq (.reg [.o 71 (.mov (.t 6)),
 .o 72 (.fieldA 1 (.t 1)),
 .o 73 (.load 1 false (.t 72)),
 .o 74 (.mov (.t 5)),
 .o 75 (.indexA 7 (.t 73) (.t 74)),
 .o 76 (.fieldA 1 (.t 75)),
 .o 77 (.load 1 false (.t 76)),
 .o 78 (.len false (.t 77)),
 .o 79 (.bin .lss (.t 71) (.t 78))])
 (.keep [1, 3, 5, 6, 79] (.cond (.t 79)
 (.skip)
 (.exit 4))))
 (.keep [1, 3, 5, 6] (.seq (.block 5 (.reg [.o 82 (.mov (.t 3)),
 .o 83 (.fieldA 1 (.t 1)),
 .o 84 (.load 1 false (.t 83)),
 .o 85 (.mov (.t 5)),
 .o 86 (.indexA 7 (.t 84) (.t 85)),
 .o 87 (.fieldA 1 (.t 86)),
 .o 88 (.load 1 false (.t 87)),
 .o 89 (.mov (.t 6)),
 .o 90 (.indexA 1 (.t 88) (.t 89)),
 .o 91 (.load 1 false (.t 90)),
 .o 92 (.len true (.t 91)),
 .o 93 (.bin .add (.t 82) (.t 92)),
 .o 3 (.mov (.t 93))]))
 (.keep [1, 3, 5, 6] (.reg [.o 80 (.mov (.t 6)),
 .o 81 (.bin .add (.t 80) (.c (.int .i64 1))),
 .o 6 (.mov (.t 81))])))))
def c_patoislaw4_light_l2 : ACode :=
 .keep [1, 3, 5] (.seq (.seq (.reg [.o 35 (.mov (.t 5)),
 .o 36 (.fieldA 1 (.t 1)),
 .o 37 (.load 1 false (.t 36)),
 .o 38 (.len false (.t 37)),
 .o 39 (.bin .lss (.t 35) (.t 38)),
 .o 40 (.mov (.t 39)),
 .g (some 41) 40 true (.mov (.t 5)),
 .g (some 42) 40 true (.bin .leq (.t 41) (.c (.int .i64 60))),
 .o 43 (.pick (.t 40) (.t 42) (.c (.bool false)))])
 (.keep [1, 3, 5, 43] (.cond (.t 43)
 (.skip)
 (.exit 2))))
 (.keep [1, 3, 5] (.seq (.block 3 (.seq (.seq (.reg [.o 46 (.fieldA 1 (.t 1)),
 .o 47 (.load 1 false (.t 46)),
 .o 48 (.mov (.t 5)),
 .o 49 (.indexA 7 (.t 47) (.t 48)),
 .o 50 (.fieldA 1 (.t 49)),
 .o 51 (.load 1 false (.t 50)),
 .o 52 (.len false (.t 51)),
 .o 53 (.bin .gtr (.t 52) (.c (.int .i64 120)))])
 (.keep [1, 3, 5, 53] (.cond (.t 53)
 (.seq (.reg [.o 2 (.mov (.c (.bool false)))])
 (.ret))
 (.skip))))
 (.keep [1, 3, 5] (.seq (.dreg [⟨0, .o 54 (.mov (.t 3)), [], []⟩,
 ⟨1, .o 55 (.fieldA 1 (.t 1)), [], []⟩,
 ⟨2, .o 56 (.load 1 false (.t 55)), [1], []⟩,
 ⟨3, .o 57 (.mov (.t 5)), [], []⟩,
 ⟨4, .o 58 (.indexA 7 (.t 56) (.t 57)), [1, 2, 3], []⟩,
 ⟨5, .o 59 (.fieldA 0 (.t 58)), [1, 2, 3, 4], []⟩,
 ⟨6, .o 60 (.load 1 false (.t 59)), [1, 2, 3, 4, 5], []⟩,
 ⟨7, .o 61 (.len true (.t 60)), [1, 2, 3, 4, 5, 6], []⟩,
 ⟨8, .o 62 (.bin .add (.t 54) (.t 61)), [0, 1, 2, 3, 4, 5, 6, 7], []⟩,
 ⟨9, .o 63 (.fieldA 1 (.t 1)), [], []⟩,
 ⟨10, .o 64 (.load 1 false (.t 63)), [9], []⟩,
 ⟨11, .o 65 (.mov (.t 5)), [], []⟩,
 ⟨12, .o 66 (.indexA 7 (.t 64) (.t 65)), [9, 10, 11], []⟩,
 ⟨13, .o 67 (.fieldA 5 (.t 66)), [9, 10, 11, 12], []⟩,
 ⟨14, .o 68 (.load 1 false (.t 67)), [9, 10, 11, 12, 13], []⟩,
 ⟨15, .o 69 (.len true (.t 68)), [9, 10, 11, 12, 13, 14], []⟩,
 ⟨16, .o 70 (.bin .add (.t 62) (.t 69)), [0, 1, 2, 3, 4, 5, 6, 7, 8, 9, 10, 11, 12, 13, 14, 15], []⟩,
 ⟨17, .o 3 (.mov (.t 70)), [0, 1, 2, 3, 4, 5, 6, 7, 8, 9, 10, 11, 12, 13, 14, 15, 16], []⟩])
 (.keep [1, 3, 5] (.seq (.reg [.o 6 (.mov (.c (.int .i64 0)))])
 (.keep [1, 3, 5, 6] (.block 4 (.loop c_patoislaw4_light_l1)))))))))
 (.keep [1, 3, 5] (.reg [.o 44 (.mov (.t 5)),
 .o 45 (.bin .add (.t 44) (.c (.int .i64 1))),
 .o 5 (.mov (.t 45))])))))
def c_patoislaw4_light : ACode :=
 .seq (.reg [.o 1 (.box (.t 0)),
 .o 2 (.mov (.c (.bool false)))])
 (.keep [1] (.seq (.reg [.o 3 (.mov (.c (.int .i64 0)))])
 (.keep [1, 3] (.seq (.seq (.reg [.o 4 (.mov (.c (.int .i64 0)))])
 (.keep [1, 3, 4] (.block 0 (.loop c_patoislaw4_light_l0))))
 (.keep [1, 3] (.seq (.seq (.reg [.o 5 (.mov (.c (.int .i64 0)))])
 (.keep [1, 3, 5] (.block 2 (.loop c_patoislaw4_light_l2))))
 (.keep [1, 3] (.seq (.reg [.o 94 (.fieldA 0 (.t 1)),
 .o 95 (.load 1 false (.t 94)),
 .o 96 (.len false (.t 95)),
 .o 97 (.bin .leq (.t 96) (.c (.int .i64 60))),
 .o 98 (.mov (.t 97)),
 .g (some 99) 98 true (.fieldA 1 (.t 1)),
 .g (some 100) 98 true (.load 1 false (.t 99)),
 .g (some 101) 98 true (.len false (.t 100)),
 .g (some 102) 98 true (.bin .leq (.t 101) (.c (.int .i64 60))),
 .o 103 (.pick (.t 98) (.t 102) (.c (.bool false))),
 .o 104 (.mov (.t 103)),
 .g (some 105) 104 true (.mov (.t 3)),
 .g (some 106) 104 true (.bin .leq (.t 105) (.c (.int .i64 60000))),
 .o 107 (.pick (.t 104) (.t 106) (.c (.bool false))),
 .o 2 (.mov (.t 107))])
 (.ret)))))))))
def a_patoislaw4_light : AFun := ⟨1, c_patoislaw4_light, [.tmp 2]⟩

/- patois/patoisref4.May -/
def c_patoisref4_May_l0 : ACode :=
 .keep [1, 3] (.seq (.seq (.reg [.o 20 (.mov (.t 3)),
 .o 21 (.fieldA 1 (.t 1)),
 .o 22 (.load 1 false (.t 21)),
 .o 23 (.len false (.t 22)),
 .o 24 (.bin .lss (.t 20) (.t 23))])
 (.keep [1, 3, 24] (.cond (.t 24)
 (.skip)
 (.exit 0))))
 (.keep [1, 3] (.seq (.block 1 (.seq (.reg [.o 27 (.fieldA 1 (.t 1)),
 .o 28 (.load 1 false (.t 27)),
 .o 29 (.mov (.t 3)),
 .o 30 (.indexA 7 (.t 28) (.t 29)),
 .o 31 (.fieldA 1 (.t 30)),
 .o 32 (.load 1 false (.t 31)),
 .o 33 (.len false (.t 32)),
 .o 34 (.bin .gtr (.t 33) (.c (.int .i64 100)))])
 (.keep [1, 3, 34] (.cond (.t 34)
 (.seq (.reg [.o 2 (.mov (.c (.int .i64 111)))])
 (.ret))
 (.skip)))))
 (.keep [1, 3] (.reg [.o 25 (.mov (.t 3)),
 .o 26 (.bin .add (.t 25) (.c (.int .i64 1))),
 .o 3 (.mov (.t 26))])))))
def c_patoisref4_May_l1 : ACode :=
 .keep [1, 4, 5, 6] (.seq (.seq (.reg [.o 56 (.mov (.t 6)),
 .o 57 (.mov (.t 4)),
 .o 58 (.bin .lss (.t 56) (.t 57))])
 (.keep [1, 4, 5, 6, 58] (.cond (.t 58)
 (.skip)
 (.exit 4))))
 (.keep [1, 4, 5, 6] (.seq (.block 5 (.seq (.dreg [⟨0, .o 61 (.fieldA 0 (.t 1)), [], []⟩,
 ⟨1, .o 62 (.load 1 false (.t 61)), [0], []⟩,
 ⟨2, .o 63 (.mov (.t 6)), [], []⟩,
 ⟨3, .o 64 (.indexA 2 (.t 62) (.t 63)), [0, 1, 2], []⟩,
 ⟨4, .o 65 (.fieldA 0 (.t 64)), [0, 1, 2, 3], []⟩,
 ⟨5, .o 66 (.load 1 false (.t 65)), [0, 1, 2, 3, 4], []⟩,
 ⟨6, .o 67 (.fieldA 0 (.t 5)), [], []⟩,
 ⟨7, .o 68 (.load 1 false (.t 67)), [6], []⟩,
 ⟨8, .o 69 (.bin .eql (.t 66) (.t 68)), [0, 1, 2, 3, 4, 5, 6, 7], []⟩])
 (.keep [1, 4, 5, 6, 69] (.cond (.t 69)
 (.seq (.reg [.o 2 (.mov (.c (.int .i64 106)))])
 (.ret))
 (.skip)))))
 (.keep [1, 4, 5, 6] (.reg [.o 59 (.mov (.t 6)),
 .o 60 (.bin .add (.t 59) (.c (.int .i64 1))),
 .o 6 (.mov (.t 60))])))))
def c_patoisref4_May_l2 : ACode :=
 .keep [1, 4] (.seq (.seq (.reg [.o 35 (.mov (.t 4)),
 .o 36 (.fieldA 0 (.t 1)),
 .o 37 (.load 1 false (.t 36)),
 .o 38 (.len false (.t 37)),
 .o 39 (.bin .lss (.t 35) (.t 38))])
 (.keep [1, 4, 39] (.cond (.t 39)
 (.skip)
 (.exit 2))))
 (.keep [1, 4] (.seq (.block 3 (.seq (.reg [.o 42 (.fieldA 0 (.t 1)),
 .o 43 (.load 1 false (.t 42)),
 .o 44 (.mov (.t 4)),
 .o 45 (.indexA 2 (.t 43) (.t 44)),
 .o 46 (.load 2 true (.t 45)),
 .o 5 (.alloc [.str [], .str []]),
 .n (.store 2 (.t 5) (.t 46))])
 (.keep [1, 4, 5] (.seq (.seq (.reg [.o 47 (.fieldA 0 (.t 5)),
 .o 48 (.load 1 false (.t 47)),
 .o 49 (.bin .eql (.t 48) (.c (.str []))),
 .o 50 (.mov (.t 49)),
 .g (some 51) 50 false (.fieldA 0 (.t 5)),
 .g (some 52) 50 false (.load 1 false (.t 51)),
 .g (some 53) 50 false (.len true (.t 52)),
 .g (some 54) 50 false (.bin .gtr (.t 53) (.c (.int .i64 2000))),
 .o 55 (.pick (.t 50) (.c (.bool true)) (.t 54))])
 (.keep [1, 4, 5, 55] (.cond (.t 55)
 (.seq (.reg [.o 2 (.mov (.c (.int .i64 106)))])
 (.ret))
 (.skip))))
 (.keep [1, 4, 5] (.seq (.seq (.reg [.o 6 (.mov (.c (.int .i64 0)))])
 (.keep [1, 4, 5, 6] (.block 4 (.loop c_patoisref4_May_l1))))
 (.keep [1, 4, 5] (.seq (.reg [.o 70 (.fieldA 1 (.t 5)),
 .o 71 (.load 1 false (.t 70)),
 .o 72 (.len true (.t 71)),
 .o 73 (.bin .gtr (.t 72) (.c (.int .i64 16384)))])
 (.keep [1, 4, 73] (.cond (.t 73)
 (.seq (.reg [.o 2 (.mov (.c (.int .i64 101)))])
 (.ret))
 (.skip)))))))))))
 (.keep [1, 4] (.reg [.o 40 (.mov (.t 4)),
 .o 41 (.bin .add (.t 40) (.c (.int .i64 1))),
 .o 4 (.mov (.t 41))])))))
def c_patoisref4_May_l3 : ACode :=
 .keep [1, 7, 8, 9] (.seq (.seq (.reg [.o 99 (.mov (.t 9)),
 .o 100 (.fieldA 1 (.t 8)),
 .o 101 (.load 1 false (.t 100)),
 .o 102 (.len false (.t 101)),
 .o 103 (.bin .lss (.t 99) (.t 102))])
 (.keep [1, 7, 8, 9, 103] (.cond (.t 103)
 (.skip)
 (.exit 8))))
 (.keep [1, 7, 8, 9] (.seq (.block 9 (.seq (.reg [.o 106 (.fieldA 1 (.t 8)),
 .o 107 (.load 1 false (.t 106)),
 .o 108 (.mov (.t 9)),
 .o 109 (.indexA 1 (.t 107) (.t 108)),
 .o 110 (.load 1 false (.t 109)),
 .o 111 (.len true (.t 110)),
 .o 112 (.bin .gtr (.t 111) (.c (.int .i64 2000)))])
 (.keep [1, 7, 8, 9, 112] (.cond (.t 112)
 (.seq (.reg [.o 2 (.mov (.c (.int .i64 101)))])
 (.ret))
 (.skip)))))
 (.keep [1, 7, 8, 9] (.reg [.o 104 (.mov (.t 9)),
 .o 105 (.bin .add (.t 104) (.c (.int .i64 1))),
 .o 9 (.mov (.t 105))])))))
def c_patoisref4_May_l4 : ACode :=
 .keep [1, 7] (.seq (.seq (.reg [.o 74 (.mov (.t 7)),
 .o 75 (.fieldA 1 (.t 1)),
 .o 76 (.load 1 false (.t 75)),
 .o 77 (.len false (.t 76)),
 .o 78 (.bin .lss (.t 74) (.t 77))])
 (.keep [1, 7, 78] (.cond (.t 78)
 (.skip)
 (.exit 6))))
 (.keep [1, 7] (.seq (.block 7 (.seq (.reg [.o 81 (.fieldA 1 (.t 1)),
 .o 82 (.load 1 false (.t 81)),
 .o 83 (.mov (.t 7)),
 .o 84 (.indexA 7 (.t 82) (.t 83)),
 .o 85 (.load 7 true (.t 84)),
 .o 8 (.alloc [.str [], .sl none 1 0 (some 0), .bool false, .bool false, .bool false, .str [], .int .i64 0]),
 .n (.store 7 (.t 8) (.t 85))])
 (.keep [1, 7, 8] (.seq (.seq (.reg [.o 86 (.fieldA 0 (.t 8)),
 .o 87 (.load 1 false (.t 86)),
 .o 88 (.bin .eql (.t 87) (.c (.str []))),
 .o 89 (.mov (.t 88)),
 .g (some 90) 89 false (.fieldA 0 (.t 8)),
 .g (some 91) 89 false (.load 1 false (.t 90)),
 .g (some 92) 89 false (.len true (.t 91)),
 .g (some 93) 89 false (.bin .gtr (.t 92) (.c (.int .i64 2000))),
 .o 94 (.pick (.t 89) (.c (.bool true)) (.t 93))])
 (.keep [1, 7, 8, 94] (.cond (.t 94)
 (.seq (.reg [.o 2 (.mov (.c (.int .i64 106)))])
 (.ret))
 (.skip))))
 (.keep [1, 7, 8] (.seq (.seq (.reg [.o 95 (.fieldA 5 (.t 8)),
 .o 96 (.load 1 false (.t 95)),
 .o 97 (.len true (.t 96)),
 .o 98 (.bin .gtr (.t 97) (.c (.int .i64 2000)))])
 (.keep [1, 7, 8, 98] (.cond (.t 98)
 (.seq (.reg [.o 2 (.mov (.c (.int .i64 101)))])
 (.ret))
 (.skip))))
 (.keep [1, 7, 8] (.seq (.seq (.reg [.o 9 (.mov (.c (.int .i64 0)))])
 (.keep [1, 7, 8, 9] (.block 8 (.loop c_patoisref4_May_l3))))
 (.keep [1, 7, 8] (.seq (.reg [.o 113 (.fieldA 6 (.t 8)),
 .o 114 (.load 1 false (.t 113)),
 .o 115 (.bin .lss (.t 114) (.c (.int .i64 0))),
 .o 116 (.mov (.t 115)),
 .g (some 117) 116 false (.fieldA 6 (.t 8)),
 .g (some 118) 116 false (.load 1 false (.t 117)),
 .g (some 119) 116 false (.bin .gtr (.t 118) (.c (.int .i64 255))),
 .o 120 (.pick (.t 116) (.c (.bool true)) (.t 119))])
 (.keep [1, 7, 120] (.cond (.t 120)
 (.seq (.reg [.o 2 (.mov (.c (.int .i64 117)))])
 (.ret))
 (.skip)))))))))))))
 (.keep [1, 7] (.reg [.o 79 (.mov (.t 7)),
 .o 80 (.bin .add (.t 79) (.c (.int .i64 1))),
 .o 7 (.mov (.t 80))])))))
def c_patoisref4_May : ACode :=
 .seq (.reg [.o 1 (.box (.t 0)),
 .o 2 (.mov (.c (.int .i64 0)))])
 (.keep [1] (.seq (.seq (.reg [.o 10 (.fieldA 0 (.t 1)),
 .o 11 (.load 1 false (.t 10)),
 .o 12 (.len false (.t 11)),
 .o 13 (.bin .gtr (.t 12) (.c (.int .i64 50))),
 .o 14 (.mov (.t 13)),
 .g (some 15) 14 false (.fieldA 1 (.t 1)),
 .g (some 16) 14 false (.load 1 false (.t 15)),
 .g (some 17) 14 false (.len false (.t 16)),
 .g (some 18) 14 false (.bin .gtr (.t 17) (.c (.int .i64 50))),
 .o 19 (.pick (.t 14) (.c (.bool true)) (.t 18))])
 (.keep [1, 19] (.cond (.t 19)
 (.seq (.reg [.o 2 (.mov (.c (.int .i64 111)))])
 (.ret))
 (.skip))))
 (.keep [1] (.seq (.seq (.reg [.o 3 (.mov (.c (.int .i64 0)))])
 (.keep [1, 3] (.block 0 (.loop c_patoisref4_May_l0))))
 (.keep [1] (.seq (.seq (.reg [.o 4 (.mov (.c (.int .i64 0)))])
 (.keep [1, 4] (.block 2 (.loop c_patoisref4_May_l2))))
 (.keep [1] (.seq (.seq (.reg [.o 7 (.mov (.c (.int .i64 0)))])
 (.keep [1, 7] (.block 6 (.loop c_patoisref4_May_l4))))
 (.keep [] (.seq (.reg [.o 2 (.mov (.c (.int .i64 0)))])
 (.ret)))))))))))
def a_patoisref4_May : AFun := ⟨1, c_patoisref4_May, [.tmp 2]⟩

/- patois/patoissee.Is -/
def c_patoissee_Is : ACode :=
 .seq (.reg [.o 4 (.mov (.c (.bool false)))])
 (.keep [0, 1] (.seq (.reg [.o 5 (.mov (.t 0)),
 .o 6 (.mov (.t 1)),
 .o 7 (.callF F_patoisref_Bare [(.t 6)]),
 .o 8 (.callF F_patoissee_Same [(.t 5), (.t 7)]),
 .o 4 (.mov (.t 8))])
 (.ret)))
def a_patoissee_Is : AFun := ⟨2, c_patoissee_Is, [.tmp 4]⟩

/- patois/world.May -/
def c_world_May_l0 : ACode :=
 .keep [1, 23, 24, 25] (.seq (.reg [.o 26 (.bin .lss (.t 25) (.t 24))])
 (.keep [1, 23, 24, 25, 26] (.seq (.cond (.t 26)
 (.skip)
 (.exit 0))
 (.keep [1, 23, 24, 25] (.seq (.block 1 (.seq (.reg [.o 27 (.indexA 7 (.t 23) (.t 25)),
 .o 28 (.load 7 true (.t 27)),
 .o 4 (.alloc [.str [], .sl none 1 0 (some 0), .bool false, .bool false, .bool false, .str [], .int .i64 0]),
 .n (.store 7 (.t 4) (.t 28))])
 (.keep [1, 4, 23, 24, 25] (.seq (.reg [.o 29 (.fieldA 1 (.t 4)),
 .o 30 (.load 1 false (.t 29)),
 .o 31 (.len false (.t 30)),
 .o 32 (.bin .gtr (.t 31) (.c (.int .i64 100)))])
 (.keep [1, 23, 24, 25, 32] (.cond (.t 32)
 (.seq (.reg [.o 33 (.load 1 false (.g G_api_ErrMany)),
 .o 2 (.mov (.t 33))])
 (.ret))
 (.skip)))))))
 (.keep [1, 23, 24, 25] (.reg [.o 34 (.bin .add (.t 25) (.c (.int .i64 1))),
 .o 25 (.mov (.t 34))])))))))
def c_world_May_l1 : ACode :=
 .keep [1, 5, 37, 38, 39] (.seq (.reg [.o 40 (.bin .lss (.t 39) (.t 38))])
 (.keep [1, 5, 37, 38, 39, 40] (.seq (.cond (.t 40)
 (.skip)
 (.exit 2))
 (.keep [1, 5, 37, 38, 39] (.seq (.block 3 (.seq (.reg [.o 41 (.indexA 2 (.t 37) (.t 39)),
 .o 42 (.load 2 true (.t 41)),
 .o 7 (.alloc [.str [], .str []]),
 .n (.store 2 (.t 7) (.t 42))])
 (.keep [1, 5, 7, 37, 38, 39] (.seq (.block 4 (.seq (.reg [.o 44 (.fieldA 0 (.t 7)),
 .o 45 (.load 1 false (.t 44)),
 .o 46 (.bin .eql (.t 45) (.c (.str []))),
 .o 47 (.mov (.t 46)),
 .g (some 48) 47 false (.fieldA 0 (.t 7)),
 .g (some 49) 47 false (.load 1 false (.t 48)),
 .g (some 50) 47 false (.len true (.t 49)),
 .g (some 51) 47 false (.bin .gtr (.t 50) (.c (.int .i64 2000))),
 .o 52 (.pick (.t 47) (.c (.bool true)) (.t 51)),
 .o 53 (.mov (.t 52)),
 .g (some 54) 53 false (.mov (.t 5)),
 .g (some 55) 53 false (.fieldA 0 (.t 7)),
 .g (some 56) 53 false (.load 1 false (.t 55)),
 .g (some 57) 53 false (.lookup (.bool false) false (.t 54) (.t 56)),
 .o 58 (.pick (.t 53) (.c (.bool true)) (.t 57)),
 .o 43 (.mov (.t 58))])
 (.keep [1, 5, 7, 37, 38, 39, 43] (.cond (.t 43)
 (.seq (.reg [.o 59 (.load 1 false (.g G_api_ErrName)),
 .o 2 (.mov (.t 59))])
 (.ret))
 (.seq (.reg [.o 61 (.fieldA 1 (.t 7)),
 .o 62 (.load 1 false (.t 61)),
 .o 63 (.len true (.t 62)),
 .o 64 (.bin .gtr (.t 63) (.c (.int .i64 16384))),
 .o 60 (.mov (.t 64))])
 (.keep [1, 5, 7, 37, 38, 39, 60] (.cond (.t 60)
 (.seq (.reg [.o 65 (.load 1 false (.g G_api_ErrLong)),
 .o 2 (.mov (.t 65))])
 (.ret))
 (.skip))))))))
 (.keep [1, 5, 7, 37, 38, 39] (.reg [.o 66 (.mov (.t 5)),
 .o 67 (.fieldA 0 (.t 7)),
 .o 68 (.load 1 false (.t 67)),
 .n (.mset (.t 66) (.t 68) (.c (.bool true)))]))))))
 (.keep [1, 5, 37, 38, 39] (.reg [.o 69 (.bin .add (.t 39) (.c (.int .i64 1))),
 .o 39 (.mov (.t 69))])))))))
def c_world_May_l2 : ACode :=
 .keep [71, 72, 73] (.seq (.reg [.o 74 (.bin .lss (.t 73) (.t 72))])
 (.keep [71, 72, 73, 74] (.seq (.cond (.t 74)
 (.skip)
 (.exit 5))
 (.keep [71, 72, 73] (.seq (.block 6 (.seq (.reg [.o 75 (.indexA 7 (.t 71) (.t 73)),
 .o 76 (.load 7 true (.t 75)),
 .o 9 (.alloc [.str [], .sl none 1 0 (some 0), .bool false, .bool false, .bool false, .str [], .int .i64 0]),
 .n (.store 7 (.t 9) (.t 76))])
 (.keep [9, 71, 72, 73] (.seq (.reg [.o 77 (.fieldA 1 (.t 9)),
 .o 78 (.load 1 false (.t 77)),
 .o 79 (.callF F_slices_ContainsFunc_string_string [(.t 78), (.f F_world_May_1)]),
 .o 10 (.mov (.t 79))])
 (.keep [9, 10, 71, 72, 73] (.block 7 (.seq (.reg [.o 81 (.fieldA 0 (.t 9)),
 .o 82 (.load 1 false (.t 81)),
 .o 83 (.bin .eql (.t 82) (.c (.str []))),
 .o 84 (.mov (.t 83)),
 .g (some 85) 84 false (.fieldA 0 (.t 9)),
 .g (some 86) 84 false (.load 1 false (.t 85)),
 .g (some 87) 84 false (.len true (.t 86)),
 .g (some 88) 84 false (.bin .gtr (.t 87) (.c (.int .i64 2000))),
 .o 89 (.pick (.t 84) (.c (.bool true)) (.t 88)),
 .o 80 (.mov (.t 89))])
 (.keep [9, 10, 71, 72, 73, 80] (.cond (.t 80)
 (.seq (.reg [.o 90 (.load 1 false (.g G_api_ErrName)),
 .o 2 (.mov (.t 90))])
 (.ret))
 (.seq (.reg [.o 92 (.mov (.t 10)),
 .o 93 (.mov (.t 92)),
 .g (some 94) 93 false (.fieldA 5 (.t 9)),
 .g (some 95) 93 false (.load 1 false (.t 94)),
 .g (some 96) 93 false (.len true (.t 95)),
 .g (some 97) 93 false (.bin .gtr (.t 96) (.c (.int .i64 2000))),
 .o 98 (.pick (.t 93) (.c (.bool true)) (.t 97)),
 .o 91 (.mov (.t 98))])
 (.keep [9, 71, 72, 73, 91] (.cond (.t 91)
 (.seq (.reg [.o 99 (.load 1 false (.g G_api_ErrLong)),
 .o 2 (.mov (.t 99))])
 (.ret))
 (.seq (.reg [.o 101 (.fieldA 6 (.t 9)),
 .o 102 (.load 1 false (.t 101)),
 .o 103 (.bin .lss (.t 102) (.c (.int .i64 0))),
 .o 104 (.mov (.t 103)),
 .g (some 105) 104 false (.fieldA 6 (.t 9)),
 .g (some 106) 104 false (.load 1 false (.t 105)),
 .g (some 107) 104 false (.bin .gtr (.t 106) (.c (.int .i64 255))),
 .o 108 (.pick (.t 104) (.c (.bool true)) (.t 107)),
 .o 100 (.mov (.t 108))])
 (.keep [71, 72, 73, 100] (.cond (.t 100)
 (.seq (.reg [.o 109 (.load 1 false (.g G_api_ErrNumber)),
 .o 2 (.mov (.t 109))])
 (.ret))
 (.skip))))))))))))))))
 (.keep [71, 72, 73] (.reg [.o 110 (.bin .add (.t 73) (.c (.int .i64 1))),
 .o 73 (.mov (.t 110))])))))))
def c_world_May : ACode :=
 .seq (.reg [.o 1 (.box (.t 0)),
 .o 2 (.mov (.c (.nilI)))])
 (.keep [1] (.seq (.seq (.reg [.o 11 (.fieldA 0 (.t 1)),
 .o 12 (.load 1 false (.t 11)),
 .o 13 (.len false (.t 12)),
 .o 14 (.bin .gtr (.t 13) (.c (.int .i64 50))),
 .o 15 (.mov (.t 14)),
 .g (some 16) 15 false (.fieldA 1 (.t 1)),
 .g (some 17) 15 false (.load 1 false (.t 16)),
 .g (some 18) 15 false (.len false (.t 17)),
 .g (some 19) 15 false (.bin .gtr (.t 18) (.c (.int .i64 50))),
 .o 20 (.pick (.t 15) (.c (.bool true)) (.t 19))])
 (.keep [1, 20] (.cond (.t 20)
 (.seq (.reg [.o 21 (.load 1 false (.g G_api_ErrMany)),
 .o 2 (.mov (.t 21))])
 (.ret))
 (.skip))))
 (.keep [1] (.seq (.seq (.reg [.o 22 (.fieldA 1 (.t 1)),
 .o 23 (.load 1 false (.t 22)),
 .o 24 (.len false (.t 23)),
 .o 25 (.mov (.c (.int .i64 0)))])
 (.keep [1, 23, 24, 25] (.block 0 (.loop c_world_May_l0))))
 (.keep [1] (.seq (.reg [.o 35 (.mkMap),
 .o 5 (.mov (.t 35))])
 (.keep [1, 5] (.seq (.seq (.reg [.o 36 (.fieldA 0 (.t 1)),
 .o 37 (.load 1 false (.t 36)),
 .o 38 (.len false (.t 37)),
 .o 39 (.mov (.c (.int .i64 0)))])
 (.keep [1, 5, 37, 38, 39] (.block 2 (.loop c_world_May_l1))))
 (.keep [1] (.seq (.seq (.reg [.o 70 (.fieldA 1 (.t 1)),
 .o 71 (.load 1 false (.t 70)),
 .o 72 (.len false (.t 71)),
 .o 73 (.mov (.c (.int .i64 0)))])
 (.keep [71, 72, 73] (.block 5 (.loop c_world_May_l2))))
 (.keep [] (.seq (.reg [.o 2 (.mov (.c (.nilI)))])
 (.ret)))))))))))))
def a_world_May : AFun := ⟨1, c_world_May, [.tmp 2]⟩

/- patois/patoisref4.New -/
def c_patoisref4_New_l0 : ACode :=
 .keep [1, 3, 4] (.seq (.seq (.reg [.o 9 (.mov (.t 4)),
 .o 10 (.fieldA 0 (.t 1)),
 .o 11 (.load 1 false (.t 10)),
 .o 12 (.len false (.t 11)),
 .o 13 (.bin .lss (.t 9) (.t 12))])
 (.keep [1, 3, 4, 13] (.cond (.t 13)
 (.skip)
 (.exit 0))))
 (.keep [1, 3, 4] (.seq (.block 1 (.reg [.o 16 (.mov (.t 3)),
 .o 17 (.fieldA 0 (.t 1)),
 .o 18 (.load 1 false (.t 17)),
 .o 19 (.mov (.t 4)),
 .o 20 (.indexA 2 (.t 18) (.t 19)),
 .o 21 (.load 2 true (.t 20)),
 .o 22 (.callF F_patoisref4_Kernel_put [(.t 16), (.t 21)])]))
 (.keep [1, 3, 4] (.reg [.o 14 (.mov (.t 4)),
 .o 15 (.bin .add (.t 14) (.c (.int .i64 1))),
 .o 4 (.mov (.t 15))])))))
def c_patoisref4_New : ACode :=
 .seq (.reg [.o 1 (.box (.t 0)),
 .o 2 (.mov (.c (.ptr none)))])
 (.keep [1] (.seq (.reg [.o 5 (.fieldA 1 (.t 1)),
 .o 6 (.load 1 false (.t 5)),
 .o 7 (.build [.sl none 2 0 (some 0), .sl none 7 0 (some 0), .sl none 5 0 (some 0)] [(1, 1, (.t 6))]),
 .o 8 (.box (.t 7)),
 .o 3 (.mov (.t 8))])
 (.keep [1, 3] (.seq (.seq (.reg [.o 4 (.mov (.c (.int .i64 0)))])
 (.keep [1, 3, 4] (.block 0 (.loop c_patoisref4_New_l0))))
 (.keep [3] (.seq (.reg [.o 23 (.mov (.t 3)),
 .o 2 (.mov (.t 23))])
 (.ret)))))))
def a_patoisref4_New : AFun := ⟨1, c_patoisref4_New, [.tmp 2]⟩

/- (*patois/patoisref4.Kernel).Exec -/
def c_patoisref4_Kernel_Exec : ACode :=
 .seq (.reg [.o 8 (.mov (.c (.str []))),
 .o 9 (.mov (.c (.int .i64 0))),
 .o 10 (.mov (.c (.bool false)))])
 (.keep [0, 1, 2, 3] (.seq (.reg [.o 15 (.mov (.t 0)),
 .o 16 (.mov (.t 1)),
 .o 17 (.mov (.t 3)),
 .o 18 (.callF F_patoisref4_Kernel_row [(.t 15), (.t 16), (.t 17)]),
 .o 11 (.mov (.t 18))])
 (.keep [0, 1, 2, 3, 11] (.seq (.reg [.o 19 (.mov (.t 1)),
 .o 20 (.mov (.t 3)),
 .o 21 (.callF F_patoisref_Texts [(.t 20)]),
 .o 22 (.build [.int .i64 0, .int .i64 0, .str [], .str [], .sl none 1 0 (some 0)] [(0, 1, (.c (.int .i64 1))), (1, 1, (.c (.int .i64 127))), (2, 1, (.t 19)), (4, 1, (.t 21))]),
 .o 12 (.alloc [.int .i64 0, .int .i64 0, .str [], .str [], .sl none 1 0 (some 0)]),
 .n (.store 5 (.t 12) (.t 22))])
 (.keep [0, 2, 11, 12] (.seq (.seq (.reg [.o 23 (.mov (.t 11)),
 .o 24 (.bin .lss (.t 23) (.c (.int .i64 0)))])
 (.keep [0, 2, 11, 12, 24] (.cond (.t 24)
 (.seq (.dreg [⟨0, .o 25 (.mov (.t 0)), [], []⟩,
 ⟨1, .o 26 (.mov (.t 0)), [], []⟩,
 ⟨2, .o 27 (.nilchk (.t 26)), [1], []⟩,
 ⟨3, .o 28 (.fieldA 2 (.t 27)), [1, 2], []⟩,
 ⟨4, .o 29 (.load 1 false (.t 28)), [1, 2, 3], []⟩,
 ⟨5, .o 30 (.load 5 true (.t 12)), [], []⟩,
 ⟨6, .o 31 (.bslice false 5 1 [.int .i64 0, .int .i64 0, .str [], .str [], .sl none 1 0 (some 0)] [(0, 5, (.t 30))]), [5], []⟩,
 ⟨7, .o 32 (.append true 5 72 (.t 29) (.t 31)), [1, 2, 3, 4, 5, 6], []⟩,
 ⟨8, .o 33 (.nilchk (.t 25)), [0, 1, 2, 3, 4, 5, 6, 7], []⟩,
 ⟨9, .o 34 (.fieldA 2 (.t 33)), [0, 1, 2, 3, 4, 5, 6, 7, 8], []⟩,
 ⟨10, .n (.store 1 (.t 34) (.t 32)), [0, 1, 2, 3, 4, 5, 6, 7, 8, 9], []⟩])
 (.keep [] (.seq (.reg [.o 8 (.mov (.c (.str []))),
 .o 9 (.mov (.c (.int .i64 127))),
 .o 10 (.mov (.c (.bool false)))])
 (.ret))))
 (.skip))))
 (.keep [0, 2, 11, 12] (.seq (.reg [.o 35 (.mov (.t 0)),
 .o 36 (.nilchk (.t 35)),
 .o 37 (.fieldA 1 (.t 36)),
 .o 38 (.load 1 false (.t 37)),
 .o 39 (.mov (.t 11)),
 .o 40 (.indexA 7 (.t 38) (.t 39)),
 .o 41 (.load 7 true (.t 40)),
 .o 13 (.alloc [.str [], .sl none 1 0 (some 0), .bool false, .bool false, .bool false, .str [], .int .i64 0]),
 .n (.store 7 (.t 13) (.t 41))])
 (.keep [0, 2, 12, 13] (.seq (.reg [.o 42 (.fieldA 6 (.t 13)),
 .o 43 (.load 1 false (.t 42)),
 .o 44 (.fieldA 1 (.t 12)),
 .n (.store 1 (.t 44) (.t 43))])
 (.keep [0, 2, 12, 13] (.seq (.seq (.reg [.o 45 (.fieldA 3 (.t 13)),
 .o 46 (.load 1 false (.t 45))])
 (.keep [0, 2, 12, 13, 46] (.cond (.t 46)
 (.reg [.o 47 (.mov (.t 2)),
 .o 48 (.fieldA 3 (.t 12)),
 .n (.store 1 (.t 48) (.t 47))])
 (.skip))))
 (.keep [0, 2, 12, 13] (.seq (.dreg [⟨0, .o 49 (.mov (.t 0)), [], []⟩,
 ⟨1, .o 50 (.mov (.t 0)), [], []⟩,
 ⟨2, .o 51 (.nilchk (.t 50)), [1], []⟩,
 ⟨3, .o 52 (.fieldA 2 (.t 51)), [1, 2], []⟩,
 ⟨4, .o 53 (.load 1 false (.t 52)), [1, 2, 3], []⟩,
 ⟨5, .o 54 (.load 5 true (.t 12)), [], []⟩,
 ⟨6, .o 55 (.bslice false 5 1 [.int .i64 0, .int .i64 0, .str [], .str [], .sl none 1 0 (some 0)] [(0, 5, (.t 54))]), [5], []⟩,
 ⟨7, .o 56 (.append true 5 72 (.t 53) (.t 55)), [1, 2, 3, 4, 5, 6], []⟩,
 ⟨8, .o 57 (.nilchk (.t 49)), [0, 1, 2, 3, 4, 5, 6, 7], []⟩,
 ⟨9, .o 58 (.fieldA 2 (.t 57)), [0, 1, 2, 3, 4, 5, 6, 7, 8], []⟩,
 ⟨10, .n (.store 1 (.t 58) (.t 56)), [0, 1, 2, 3, 4, 5, 6, 7, 8, 9], []⟩])
 (.keep [2, 13] (.seq (.reg [.o 59 (.fieldA 5 (.t 13)),
 .o 60 (.load 1 false (.t 59)),
 .o 14 (.mov (.t 60))])
 (.keep [2, 13, 14] (.seq (.seq (.reg [.o 61 (.fieldA 4 (.t 13)),
 .o 62 (.load 1 false (.t 61))])
 (.keep [2, 13, 14, 62] (.cond (.t 62)
 (.reg [.o 63 (.mov (.t 14)),
 .o 64 (.mov (.t 2)),
 .o 65 (.bin .add (.t 63) (.t 64)),
 .o 14 (.mov (.t 65))])
 (.skip))))
 (.keep [13, 14] (.seq (.dreg [⟨0, .o 66 (.mov (.t 14)), [], []⟩,
 ⟨1, .o 67 (.fieldA 6 (.t 13)), [], []⟩,
 ⟨2, .o 68 (.load 1 false (.t 67)), [1], []⟩,
 ⟨3, .o 8 (.mov (.t 66)), [0], []⟩,
 ⟨4, .o 9 (.mov (.t 68)), [0, 1, 2, 3], []⟩,
 ⟨5, .o 10 (.mov (.c (.bool true))), [0, 1, 2, 3, 4], []⟩])
 (.ret)))))))))))))))))))))
def a_patoisref4_Kernel_Exec : AFun := ⟨4, c_patoisref4_Kernel_Exec, [.tmp 8, .tmp 9, .tmp 10]⟩

/- (*patois/patoisref4.Kernel).Reads -/
def c_patoisref4_Kernel_Reads : ACode :=
 .seq (.reg [.o 6 (.mov (.c (.bool false)))])
 (.keep [0, 1, 2] (.seq (.reg [.o 8 (.mov (.t 0)),
 .o 9 (.mov (.t 1)),
 .o 10 (.mov (.t 2)),
 .o 11 (.callF F_patoisref4_Kernel_row [(.t 8), (.t 9), (.t 10)]),
 .o 7 (.mov (.t 11))])
 (.keep [0, 7] (.seq (.reg [.o 12 (.mov (.t 7)),
 .o 13 (.bin .geq (.t 12) (.c (.int .i64 0))),
 .o 14 (.mov (.t 13)),
 .g (some 15) 14 true (.mov (.t 0)),
 .g (some 16) 14 true (.nilchk (.t 15)),
 .g (some 17) 14 true (.fieldA 1 (.t 16)),
 .g (some 18) 14 true (.load 1 false (.t 17)),
 .g (some 19) 14 true (.mov (.t 7)),
 .g (some 20) 14 true (.indexA 7 (.t 18) (.t 19)),
 .g (some 21) 14 true (.fieldA 3 (.t 20)),
 .g (some 22) 14 true (.load 1 false (.t 21)),
 .o 23 (.pick (.t 14) (.t 22) (.c (.bool false))),
 .o 6 (.mov (.t 23))])
 (.ret)))))
def a_patoisref4_Kernel_Reads : AFun := ⟨3, c_patoisref4_Kernel_Reads, [.tmp 6]⟩

/- (*patois/patoisref4.Kernel).Open -/
def c_patoisref4_Kernel_Open : ACode :=
 .seq (.reg [.o 6 (.mov (.c (.str []))),
 .o 7 (.mov (.c (.bool false)))])
 (.keep [0, 1, 2] (.seq (.seq (.reg [.o 11 (.mov (.t 2)),
 .o 12 (.bin .lss (.t 11) (.c (.int .i64 1))),
 .o 13 (.mov (.t 12)),
 .g (some 14) 13 false (.mov (.t 2)),
 .g (some 15) 13 false (.bin .gtr (.t 14) (.c (.int .i64 3))),
 .o 16 (.pick (.t 13) (.c (.bool true)) (.t 15))])
 (.keep [0, 1, 2, 16] (.cond (.t 16)
 (.seq (.reg [.o 6 (.mov (.c (.str []))),
 .o 7 (.mov (.c (.bool false)))])
 (.ret))
 (.skip))))
 (.keep [0, 1, 2] (.seq (.reg [.o 17 (.mov (.t 2)),
 .o 18 (.mov (.t 1)),
 .o 19 (.build [.int .i64 0, .int .i64 0, .str [], .str [], .sl none 1 0 (some 0)] [(0, 1, (.c (.int .i64 2))), (1, 1, (.t 17)), (2, 1, (.t 18))]),
 .o 8 (.alloc [.int .i64 0, .int .i64 0, .str [], .str [], .sl none 1 0 (some 0)]),
 .n (.store 5 (.t 8) (.t 19))])
 (.keep [0, 1, 2, 8] (.seq (.reg [.o 20 (.mov (.t 0)),
 .o 21 (.mov (.t 1)),
 .o 22 (.callF F_patoisref4_Kernel_find [(.t 20), (.t 21)]),
 .o 9 (.mov (.t 22))])
 (.keep [0, 1, 2, 8, 9] (.seq (.reg [.o 10 (.mov (.c (.str [])))])
 (.keep [0, 1, 2, 8, 9, 10] (.seq (.seq (.reg [.o 23 (.mov (.t 2)),
 .o 24 (.bin .eql (.t 23) (.c (.int .i64 1)))])
 (.keep [0, 1, 2, 8, 9, 10, 24] (.cond (.t 24)
 (.seq (.reg [.o 25 (.mov (.t 9)),
 .o 26 (.bin .lss (.t 25) (.c (.int .i64 0)))])
 (.keep [0, 8, 9, 10, 26] (.cond (.t 26)
 (.reg [.o 27 (.fieldA 1 (.t 8)),
 .n (.store 1 (.t 27) (.c (.int .i64 4)))])
 (.reg [.o 28 (.mov (.t 0)),
 .o 29 (.nilchk (.t 28)),
 .o 30 (.fieldA 0 (.t 29)),
 .o 31 (.load 1 false (.t 30)),
 .o 32 (.mov (.t 9)),
 .o 33 (.indexA 2 (.t 31) (.t 32)),
 .o 34 (.fieldA 1 (.t 33)),
 .o 35 (.load 1 false (.t 34)),
 .o 10 (.mov (.t 35))]))))
 (.seq (.reg [.o 36 (.mov (.t 2)),
 .o 37 (.bin .eql (.t 36) (.c (.int .i64 2))),
 .o 38 (.mov (.t 37)),
 .g (some 39) 38 false (.mov (.t 9)),
 .g (some 40) 38 false (.bin .lss (.t 39) (.c (.int .i64 0))),
 .o 41 (.pick (.t 38) (.c (.bool true)) (.t 40))])
 (.keep [0, 1, 8, 10, 41] (.cond (.t 41)
 (.reg [.o 42 (.mov (.t 0)),
 .o 43 (.mov (.t 1)),
 .o 44 (.build [.str [], .str []] [(0, 1, (.t 43))]),
 .o 45 (.callF F_patoisref4_Kernel_put [(.t 42), (.t 44)])])
 (.skip)))))))
 (.keep [0, 8, 10] (.seq (.dreg [⟨0, .o 46 (.mov (.t 0)), [], []⟩,
 ⟨1, .o 47 (.mov (.t 0)), [], []⟩,
 ⟨2, .o 48 (.nilchk (.t 47)), [1], []⟩,
 ⟨3, .o 49 (.fieldA 2 (.t 48)), [1, 2], []⟩,
 ⟨4, .o 50 (.load 1 false (.t 49)), [1, 2, 3], []⟩,
 ⟨5, .o 51 (.load 5 true (.t 8)), [], []⟩,
 ⟨6, .o 52 (.bslice false 5 1 [.int .i64 0, .int .i64 0, .str [], .str [], .sl none 1 0 (some 0)] [(0, 5, (.t 51))]), [5], []⟩,
 ⟨7, .o 53 (.append true 5 72 (.t 50) (.t 52)), [1, 2, 3, 4, 5, 6], []⟩,
 ⟨8, .o 54 (.nilchk (.t 46)), [0, 1, 2, 3, 4, 5, 6, 7], []⟩,
 ⟨9, .o 55 (.fieldA 2 (.t 54)), [0, 1, 2, 3, 4, 5, 6, 7, 8], []⟩,
 ⟨10, .n (.store 1 (.t 55) (.t 53)), [0, 1, 2, 3, 4, 5, 6, 7, 8, 9], []⟩])
 (.keep [8, 10] (.seq (.dreg [⟨0, .o 56 (.mov (.t 10)), [], []⟩,
 ⟨1, .o 57 (.fieldA 1 (.t 8)), [], []⟩,
 ⟨2, .o 58 (.load 1 false (.t 57)), [1], []⟩,
 ⟨3, .o 59 (.bin .neq (.t 58) (.c (.int .i64 4))), [1, 2], []⟩,
 ⟨4, .o 6 (.mov (.t 56)), [0], []⟩,
 ⟨5, .o 7 (.mov (.t 59)), [0, 1, 2, 3, 4], []⟩])
 (.ret)))))))))))))))
def a_patoisref4_Kernel_Open : AFun := ⟨3, c_patoisref4_Kernel_Open, [.tmp 6, .tmp 7]⟩

/- (*patois/patoisref4.Kernel).Write -/
def c_patoisref4_Kernel_Write : ACode :=
 .seq (.reg [.o 6 (.mov (.c (.bool false)))])
 (.keep [0, 1, 2] (.seq (.seq (.reg [.o 9 (.mov (.t 2)),
 .o 10 (.bin .eql (.t 9) (.c (.str [])))])
 (.keep [0, 1, 2, 10] (.cond (.t 10)
 (.seq (.reg [.o 6 (.mov (.c (.bool true)))])
 (.ret))
 (.skip))))
 (.keep [0, 1, 2] (.seq (.seq (.reg [.o 11 (.mov (.t 1)),
 .o 12 (.bin .neq (.t 11) (.c (.str [])))])
 (.keep [0, 1, 2, 12] (.cond (.t 12)
 (.seq (.reg [.o 13 (.mov (.t 0)),
 .o 14 (.mov (.t 1)),
 .o 15 (.callF F_patoisref4_Kernel_find [(.t 13), (.t 14)]),
 .o 7 (.mov (.t 15))])
 (.keep [0, 1, 2, 7] (.seq (.reg [.o 8 (.mov (.c (.str [])))])
 (.keep [0, 1, 2, 7, 8] (.seq (.seq (.reg [.o 16 (.mov (.t 7)),
 .o 17 (.bin .geq (.t 16) (.c (.int .i64 0)))])
 (.keep [0, 1, 2, 7, 8, 17] (.cond (.t 17)
 (.reg [.o 18 (.mov (.t 0)),
 .o 19 (.nilchk (.t 18)),
 .o 20 (.fieldA 0 (.t 19)),
 .o 21 (.load 1 false (.t 20)),
 .o 22 (.mov (.t 7)),
 .o 23 (.indexA 2 (.t 21) (.t 22)),
 .o 24 (.fieldA 1 (.t 23)),
 .o 25 (.load 1 false (.t 24)),
 .o 8 (.mov (.t 25))])
 (.skip))))
 (.keep [0, 1, 2, 8] (.seq (.seq (.reg [.o 26 (.mov (.t 2)),
 .o 27 (.len true (.t 26)),
 .o 28 (.mov (.t 8)),
 .o 29 (.len true (.t 28)),
 .o 30 (.bin .sub (.c (.int .i64 16384)) (.t 29)),
 .o 31 (.bin .gtr (.t 27) (.t 30))])
 (.keep [0, 1, 2, 8, 31] (.cond (.t 31)
 (.seq (.reg [.o 6 (.mov (.c (.bool false)))])
 (.ret))
 (.skip))))
 (.keep [0, 1, 2, 8] (.reg [.o 32 (.mov (.t 0)),
 .o 33 (.mov (.t 1)),
 .o 34 (.mov (.t 8)),
 .o 35 (.mov (.t 2)),
 .o 36 (.bin .add (.t 34) (.t 35)),
 .o 37 (.build [.str [], .str []] [(0, 1, (.t 33)), (1, 1, (.t 36))]),
 .o 38 (.callF F_patoisref4_Kernel_put [(.t 32), (.t 37)])])))))))))
 (.skip))))
 (.keep [0, 1, 2] (.seq (.reg [.o 39 (.mov (.t 0)),
 .o 40 (.mov (.t 0)),
 .o 41 (.nilchk (.t 40)),
 .o 42 (.fieldA 2 (.t 41)),
 .o 43 (.load 1 false (.t 42)),
 .o 44 (.mov (.t 1)),
 .o 45 (.mov (.t 2)),
 .o 46 (.build [.int .i64 0, .int .i64 0, .str [], .str [], .sl none 1 0 (some 0)] [(0, 1, (.c (.int .i64 3))), (2, 1, (.t 44)), (3, 1, (.t 45))]),
 .o 47 (.bslice false 5 1 [.int .i64 0, .int .i64 0, .str [], .str [], .sl none 1 0 (some 0)] [(0, 5, (.t 46))]),
 .o 48 (.append true 5 72 (.t 43) (.t 47)),
 .o 49 (.nilchk (.t 39)),
 .o 50 (.fieldA 2 (.t 49)),
 .n (.store 1 (.t 50) (.t 48))])
 (.keep [] (.seq (.reg [.o 6 (.mov (.c (.bool true)))])
 (.ret)))))))))
def a_patoisref4_Kernel_Write : AFun := ⟨3, c_patoisref4_Kernel_Write, [.tmp 6]⟩

/- (*patois/patoisref4.Kernel).Mark -/
def c_patoisref4_Kernel_Mark : ACode :=
 .seq (.reg [.o 6 (.mov (.t 1)),
 .o 7 (.bin .eql (.t 6) (.c (.int .i64 4))),
 .o 8 (.mov (.t 7)),
 .g (some 9) 8 false (.mov (.t 1)),
 .g (some 10) 8 false (.bin .eql (.t 9) (.c (.int .i64 5))),
 .o 11 (.pick (.t 8) (.c (.bool true)) (.t 10)),
 .o 12 (.mov (.t 11)),
 .g (some 13) 12 false (.mov (.t 1)),
 .g (some 14) 12 false (.bin .eql (.t 13) (.c (.int .i64 6))),
 .o 15 (.pick (.t 12) (.c (.bool true)) (.t 14))])
 (.keep [0, 1, 2, 15] (.cond (.t 15)
 (.reg [.o 16 (.mov (.t 0)),
 .o 17 (.mov (.t 0)),
 .o 18 (.nilchk (.t 17)),
 .o 19 (.fieldA 2 (.t 18)),
 .o 20 (.load 1 false (.t 19)),
 .o 21 (.mov (.t 1)),
 .o 22 (.mov (.t 2)),
 .o 23 (.build [.int .i64 0, .int .i64 0, .str [], .str [], .sl none 1 0 (some 0)] [(0, 1, (.t 21)), (1, 1, (.t 22))]),
 .o 24 (.bslice false 5 1 [.int .i64 0, .int .i64 0, .str [], .str [], .sl none 1 0 (some 0)] [(0, 5, (.t 23))]),
 .o 25 (.append true 5 72 (.t 20) (.t 24)),
 .o 26 (.nilchk (.t 16)),
 .o 27 (.fieldA 2 (.t 26)),
 .n (.store 1 (.t 27) (.t 25))])
 (.skip)))
def a_patoisref4_Kernel_Mark : AFun := ⟨3, c_patoisref4_Kernel_Mark, []⟩

/- patois/patoisref.SameFiles -/
def c_patoisref_SameFiles_l0 : ACode :=
 .keep [0, 1, 5] (.seq (.seq (.reg [.o 12 (.mov (.t 5)),
 .o 13 (.mov (.t 0)),
 .o 14 (.len false (.t 13)),
 .o 15 (.bin .lss (.t 12) (.t 14))])
 (.keep [0, 1, 5, 15] (.cond (.t 15)
 (.skip)
 (.exit 0))))
 (.keep [0, 1, 5] (.seq (.block 1 (.seq (.dreg [⟨0, .o 18 (.mov (.t 0)), [], []⟩,
 ⟨1, .o 19 (.mov (.t 5)), [], []⟩,
 ⟨2, .o 20 (.indexA 2 (.t 18) (.t 19)), [0, 1], []⟩,
 ⟨3, .o 21 (.load 2 true (.t 20)), [0, 1, 2], []⟩,
 ⟨4, .o 22 (.mov (.t 1)), [], []⟩,
 ⟨5, .o 23 (.mov (.t 5)), [], []⟩,
 ⟨6, .o 24 (.indexA 2 (.t 22) (.t 23)), [4, 5], []⟩,
 ⟨7, .o 25 (.load 2 true (.t 24)), [4, 5, 6], []⟩,
 ⟨8, .o 26 (.callF F_patoisref_SameFile [(.t 21), (.t 25)]), [0, 1, 2, 3, 4, 5, 6, 7], []⟩,
 ⟨9, .o 6 (.mov (.t 26)), [0, 1, 2, 3, 4, 5, 6, 7, 8], []⟩])
 (.keep [0, 1, 5, 6] (.seq (.reg [.o 27 (.mov (.t 6)),
 .o 28 (.not (.t 27))])
 (.keep [0, 1, 5, 28] (.cond (.t 28)
 (.seq (.reg [.o 4 (.mov (.c (.bool false)))])
 (.ret))
 (.skip)))))))
 (.keep [0, 1, 5] (.reg [.o 16 (.mov (.t 5)),
 .o 17 (.bin .add (.t 16) (.c (.int .i64 1))),
 .o 5 (.mov (.t 17))])))))
def c_patoisref_SameFiles : ACode :=
 .seq (.reg [.o 4 (.mov (.c (.bool false)))])
 (.keep [0, 1] (.seq (.seq (.reg [.o 7 (.mov (.t 0)),
 .o 8 (.len false (.t 7)),
 .o 9 (.mov (.t 1)),
 .o 10 (.len false (.t 9)),
 .o 11 (.bin .neq (.t 8) (.t 10))])
 (.keep [0, 1, 11] (.cond (.t 11)
 (.seq (.reg [.o 4 (.mov (.c (.bool false)))])
 (.ret))
 (.skip))))
 (.keep [0, 1] (.seq (.seq (.reg [.o 5 (.mov (.c (.int .i64 0)))])
 (.keep [0, 1, 5] (.block 0 (.loop c_patoisref_SameFiles_l0))))
 (.keep [] (.seq (.reg [.o 4 (.mov (.c (.bool true)))])
 (.ret)))))))
def a_patoisref_SameFiles : AFun := ⟨2, c_patoisref_SameFiles, [.tmp 4]⟩

/- (*patois/patoisref4.Kernel).Names -/
def c_patoisref4_Kernel_Names_l0 : ACode :=
 .keep [0, 3, 4] (.seq (.seq (.reg [.o 5 (.mov (.t 4)),
 .o 6 (.mov (.t 0)),
 .o 7 (.nilchk (.t 6)),
 .o 8 (.fieldA 0 (.t 7)),
 .o 9 (.load 1 false (.t 8)),
 .o 10 (.len false (.t 9)),
 .o 11 (.bin .lss (.t 5) (.t 10))])
 (.keep [0, 3, 4, 11] (.cond (.t 11)
 (.skip)
 (.exit 0))))
 (.keep [0, 3, 4] (.seq (.block 1 (.reg [.o 14 (.mov (.t 3)),
 .o 15 (.mov (.t 0)),
 .o 16 (.nilchk (.t 15)),
 .o 17 (.fieldA 0 (.t 16)),
 .o 18 (.load 1 false (.t 17)),
 .o 19 (.mov (.t 4)),
 .o 20 (.indexA 2 (.t 18) (.t 19)),
 .o 21 (.fieldA 0 (.t 20)),
 .o 22 (.load 1 false (.t 21)),
 .o 23 (.bslice false 1 1 [.str []] [(0, 1, (.t 22))]),
 .o 24 (.append true 1 16 (.t 14) (.t 23)),
 .o 3 (.mov (.t 24))]))
 (.keep [0, 3, 4] (.reg [.o 12 (.mov (.t 4)),
 .o 13 (.bin .add (.t 12) (.c (.int .i64 1))),
 .o 4 (.mov (.t 13))])))))
def c_patoisref4_Kernel_Names : ACode :=
 .seq (.reg [.o 2 (.mov (.c (.sl none 1 0 (some 0))))])
 (.keep [0] (.seq (.reg [.o 3 (.mov (.c (.sl none 1 0 (some 0))))])
 (.keep [0, 3] (.seq (.seq (.reg [.o 4 (.mov (.c (.int .i64 0)))])
 (.keep [0, 3, 4] (.block 0 (.loop c_patoisref4_Kernel_Names_l0))))
 (.keep [3] (.seq (.reg [.o 25 (.mov (.t 3)),
 .o 2 (.mov (.t 25))])
 (.ret)))))))
def a_patoisref4_Kernel_Names : AFun := ⟨1, c_patoisref4_Kernel_Names, [.tmp 2]⟩

/- patois/patoisref4.Erase -/
def c_patoisref4_Erase_l0 : ACode :=
 .keep [0, 3, 4] (.seq (.seq (.reg [.o 5 (.mov (.t 4)),
 .o 6 (.mov (.t 0)),
 .o 7 (.len false (.t 6)),
 .o 8 (.bin .lss (.t 5) (.t 7))])
 (.keep [0, 3, 4, 8] (.cond (.t 8)
 (.skip)
 (.exit 0))))
 (.keep [0, 3, 4] (.seq (.block 1 (.seq (.reg [.o 11 (.mov (.t 0)),
 .o 12 (.mov (.t 4)),
 .o 13 (.indexA 5 (.t 11) (.t 12)),
 .o 14 (.fieldA 0 (.t 13)),
 .o 15 (.load 1 false (.t 14)),
 .o 16 (.bin .neq (.t 15) (.c (.int .i64 4))),
 .o 17 (.mov (.t 16)),
 .g (some 18) 17 true (.mov (.t 0)),
 .g (some 19) 17 true (.mov (.t 4)),
 .g (some 20) 17 true (.indexA 5 (.t 18) (.t 19)),
 .g (some 21) 17 true (.fieldA 0 (.t 20)),
 .g (some 22) 17 true (.load 1 false (.t 21)),
 .g (some 23) 17 true (.bin .neq (.t 22) (.c (.int .i64 5))),
 .o 24 (.pick (.t 17) (.t 23) (.c (.bool false))),
 .o 25 (.mov (.t 24)),
 .g (some 26) 25 true (.mov (.t 0)),
 .g (some 27) 25 true (.mov (.t 4)),
 .g (some 28) 25 true (.indexA 5 (.t 26) (.t 27)),
 .g (some 29) 25 true (.fieldA 0 (.t 28)),
 .g (some 30) 25 true (.load 1 false (.t 29)),
 .g (some 31) 25 true (.bin .neq (.t 30) (.c (.int .i64 6))),
 .o 32 (.pick (.t 25) (.t 31) (.c (.bool false)))])
 (.keep [0, 3, 4, 32] (.cond (.t 32)
 (.reg [.o 33 (.mov (.t 3)),
 .o 34 (.mov (.t 0)),
 .o 35 (.mov (.t 4)),
 .o 36 (.indexA 5 (.t 34) (.t 35)),
 .o 37 (.load 5 true (.t 36)),
 .o 38 (.bslice false 5 1 [.int .i64 0, .int .i64 0, .str [], .str [], .sl none 1 0 (some 0)] [(0, 5, (.t 37))]),
 .o 39 (.append true 5 72 (.t 33) (.t 38)),
 .o 3 (.mov (.t 39))])
 (.skip)))))
 (.keep [0, 3, 4] (.reg [.o 9 (.mov (.t 4)),
 .o 10 (.bin .add (.t 9) (.c (.int .i64 1))),
 .o 4 (.mov (.t 10))])))))
def c_patoisref4_Erase : ACode :=
 .seq (.reg [.o 2 (.mov (.c (.sl none 5 0 (some 0))))])
 (.keep [0] (.seq (.reg [.o 3 (.mov (.c (.sl none 5 0 (some 0))))])
 (.keep [0, 3] (.seq (.seq (.reg [.o 4 (.mov (.c (.int .i64 0)))])
 (.keep [0, 3, 4] (.block 0 (.loop c_patoisref4_Erase_l0))))
 (.keep [3] (.seq (.reg [.o 40 (.mov (.t 3)),
 .o 2 (.mov (.t 40))])
 (.ret)))))))
def a_patoisref4_Erase : AFun := ⟨1, c_patoisref4_Erase, [.tmp 2]⟩

/- patois/world.Begins -/
def c_world_Begins : ACode :=
 .seq (.reg [.o 4 (.mov (.c (.bool false)))])
 (.keep [0, 1] (.seq (.reg [.o 5 (.mov (.t 0)),
 .o 6 (.len false (.t 5)),
 .o 7 (.mov (.t 1)),
 .o 8 (.len false (.t 7)),
 .o 9 (.bin .leq (.t 6) (.t 8)),
 .o 10 (.mov (.t 9)),
 .g (some 11) 10 true (.mov (.t 0)),
 .g (some 12) 10 true (.mov (.t 1)),
 .g (some 13) 10 true (.mov (.t 0)),
 .g (some 14) 10 true (.len false (.t 13)),
 .g (some 15) 10 true (.slc 5 (.t 12) none (some (.t 14))),
 .g (some 16) 10 true (.callF F_world_SameEvents [(.t 11), (.t 15)]),
 .o 17 (.pick (.t 10) (.t 16) (.c (.bool false))),
 .o 4 (.mov (.t 17))])
 (.ret)))
def a_world_Begins : AFun := ⟨2, c_world_Begins, [.tmp 4]⟩

/- patois/patoisref4.Begins -/
def c_patoisref4_Begins : ACode :=
 .seq (.reg [.o 4 (.mov (.c (.bool false)))])
 (.keep [0, 1] (.seq (.reg [.o 5 (.mov (.t 0)),
 .o 6 (.len false (.t 5)),
 .o 7 (.mov (.t 1)),
 .o 8 (.len false (.t 7)),
 .o 9 (.bin .leq (.t 6) (.t 8)),
 .o 10 (.mov (.t 9)),
 .g (some 11) 10 true (.mov (.t 0)),
 .g (some 12) 10 true (.mov (.t 1)),
 .g (some 13) 10 true (.mov (.t 0)),
 .g (some 14) 10 true (.len false (.t 13)),
 .g (some 15) 10 true (.slc 5 (.t 12) none (some (.t 14))),
 .g (some 16) 10 true (.callF F_patoisref_SameEvents [(.t 11), (.t 15)]),
 .o 17 (.pick (.t 10) (.t 16) (.c (.bool false))),
 .o 4 (.mov (.t 17))])
 (.ret)))
def a_patoisref4_Begins : AFun := ⟨2, c_patoisref4_Begins, [.tmp 4]⟩

/- patois/world.SameEvents -/
def c_world_SameEvents : ACode :=
 .seq (.reg [.o 4 (.mov (.c (.bool false)))])
 (.keep [0, 1] (.seq (.reg [.o 5 (.mov (.t 0)),
 .o 6 (.mov (.t 1)),
 .o 7 (.callF F_slices_EqualFunc_api_Event_api_Event_api_Event_api_Event [(.t 5), (.t 6), (.f F_world_same)]),
 .o 4 (.mov (.t 7))])
 (.ret)))
def a_world_SameEvents : AFun := ⟨2, c_world_SameEvents, [.tmp 4]⟩

/- slices.Clone[[]patois/api.File,patois/api.File] -/
def c_slices_Clone_api_File_api_File : ACode :=
 .seq (.reg [.o 2 (.mov (.c (.sl none 2 0 none)))])
 (.keep [0] (.seq (.seq (.reg [.o 3 (.mov (.t 0)),
 .o 4 (.eq false .nilS (.t 3) (.c (.sl none 1 0 none)))])
 (.keep [0, 4] (.cond (.t 4)
 (.seq (.reg [.o 2 (.mov (.c (.sl none 2 0 none)))])
 (.ret))
 (.skip))))
 (.keep [0] (.seq (.reg [.o 5 (.bslice true 2 0 [] []),
 .o 6 (.mov (.t 0)),
 .o 7 (.append false 2 32 (.t 5) (.t 6)),
 .o 2 (.mov (.t 7))])
 (.ret)))))
def a_slices_Clone_api_File_api_File : AFun := ⟨1, c_slices_Clone_api_File_api_File, [.tmp 2]⟩

/- slices.SortFunc[[]patois/api.File,patois/api.File] -/
def c_slices_SortFunc_api_File_api_File : ACode :=
 .seq (.reg [.o 5 (.mov (.t 0)),
 .o 6 (.len false (.t 5)),
 .o 4 (.mov (.t 6))])
 (.keep [0, 1, 4] (.reg [.o 7 (.mov (.t 0)),
 .o 8 (.mov (.t 4)),
 .o 9 (.mov (.t 4)),
 .o 10 (.conv .u64 (.t 9)),
 .o 11 (.callF F_math_bits_Len [(.t 10)]),
 .o 12 (.mov (.t 1)),
 .o 13 (.callF F_slices_pdqsortCmpFunc_api_File [(.t 7), (.c (.int .i64 0)), (.t 8), (.t 11), (.t 12)])]))
def a_slices_SortFunc_api_File_api_File : AFun := ⟨2, c_slices_SortFunc_api_File_api_File, []⟩

/- patois/world.byName -/
def c_world_byName : ACode :=
 .seq (.reg [.o 2 (.box (.t 0)),
 .o 3 (.box (.t 1)),
 .o 4 (.mov (.c (.int .i64 0)))])
 (.keep [2, 3] (.seq (.reg [.o 5 (.fieldA 0 (.t 2)),
 .o 6 (.load 1 false (.t 5)),
 .o 7 (.fieldA 0 (.t 3)),
 .o 8 (.load 1 false (.t 7)),
 .o 9 (.callF F_strings_Compare [(.t 6), (.t 8)]),
 .o 4 (.mov (.t 9))])
 (.ret)))
def a_world_byName : AFun := ⟨2, c_world_byName, [.tmp 4]⟩

/- slices.Clone[[]string,string] -/
def c_slices_Clone_string_string : ACode :=
 .seq (.reg [.o 2 (.mov (.c (.sl none 1 0 (some 0))))])
 (.keep [0] (.seq (.seq (.reg [.o 3 (.mov (.t 0)),
 .o 4 (.eq false .nilS (.t 3) (.c (.sl none 1 0 (some 0))))])
 (.keep [0, 4] (.cond (.t 4)
 (.seq (.reg [.o 2 (.mov (.c (.sl none 1 0 (some 0))))])
 (.ret))
 (.skip))))
 (.keep [0] (.seq (.reg [.o 5 (.bslice false 1 0 [] []),
 .o 6 (.mov (.t 0)),
 .o 7 (.append true 1 16 (.t 5) (.t 6)),
 .o 2 (.mov (.t 7))])
 (.ret)))))
def a_slices_Clone_string_string : AFun := ⟨1, c_slices_Clone_string_string, [.tmp 2]⟩

/- (*patois/world.Kernel).file -/
def c_world_Kernel_file : ACode :=
 .seq (.reg [.o 4 (.mov (.c (.int .i64 0))),
 .o 5 (.mov (.c (.bool false)))])
 (.keep [0, 1] (.seq (.reg [.o 6 (.mov (.t 0)),
 .o 7 (.nilchk (.t 6)),
 .o 8 (.fieldA 1 (.t 7)),
 .o 9 (.load 1 false (.t 8)),
 .o 10 (.mov (.t 1)),
 .o 11 (.build [.str [], .str []] [(0, 1, (.t 10))]),
 .o 12 (.callF F_slices_BinarySearchFunc_api_File_api_File_api_File [(.t 9), (.t 11), (.f F_world_byName)]),
 .o 13 (.extract (.t 12) 0),
 .o 14 (.extract (.t 12) 1),
 .o 4 (.mov (.t 13)),
 .o 5 (.mov (.t 14))])
 (.ret)))
def a_world_Kernel_file : AFun := ⟨2, c_world_Kernel_file, [.tmp 4, .tmp 5]⟩

/- (*patois/world.asked).note -/
def c_world_asked_note : ACode :=
 .seq (.reg [.o 3 (.box (.t 1))])
 (.keep [0, 3] (.dreg [⟨0, .o 4 (.mov (.t 0)), [], []⟩,
 ⟨1, .o 5 (.mov (.t 0)), [], []⟩,
 ⟨2, .o 6 (.nilchk (.t 5)), [1], []⟩,
 ⟨3, .o 7 (.fieldA 0 (.t 6)), [1, 2], []⟩,
 ⟨4, .o 8 (.load 1 false (.t 7)), [1, 2, 3], []⟩,
 ⟨5, .o 9 (.load 5 true (.t 3)), [], []⟩,
 ⟨6, .o 10 (.bslice false 5 1 [.int .i64 0, .int .i64 0, .str [], .str [], .sl none 1 0 (some 0)] [(0, 5, (.t 9))]), [5], []⟩,
 ⟨7, .o 11 (.append true 5 72 (.t 8) (.t 10)), [1, 2, 3, 4, 5, 6], []⟩,
 ⟨8, .o 12 (.nilchk (.t 4)), [0, 1, 2, 3, 4, 5, 6, 7], []⟩,
 ⟨9, .o 13 (.fieldA 0 (.t 12)), [0, 1, 2, 3, 4, 5, 6, 7, 8], []⟩,
 ⟨10, .n (.store 1 (.t 13) (.t 11)), [0, 1, 2, 3, 4, 5, 6, 7, 8, 9], []⟩]))
def a_world_asked_note : AFun := ⟨2, c_world_asked_note, []⟩

/- (*patois/world.Kernel).made -/
def c_world_Kernel_made : ACode :=
 .seq (.reg [.o 4 (.mov (.c (.int .i64 0)))])
 (.keep [0, 1] (.seq (.reg [.o 8 (.mov (.t 0)),
 .o 9 (.mov (.t 1)),
 .o 10 (.callF F_world_Kernel_file [(.t 8), (.t 9)]),
 .o 7 (.mov (.t 10)),
 .o 11 (.extract (.t 7) 0),
 .o 12 (.extract (.t 7) 1),
 .o 5 (.mov (.t 11)),
 .o 6 (.mov (.t 12))])
 (.keep [0, 1, 5, 6] (.seq (.seq (.reg [.o 13 (.mov (.t 6)),
 .o 14 (.not (.t 13))])
 (.keep [0, 1, 5, 14] (.cond (.t 14)
 (.reg [.o 15 (.mov (.t 0)),
 .o 16 (.mov (.t 0)),
 .o 17 (.nilchk (.t 16)),
 .o 18 (.fieldA 1 (.t 17)),
 .o 19 (.load 1 false (.t 18)),
 .o 20 (.mov (.t 5)),
 .o 21 (.mov (.t 1)),
 .o 22 (.build [.str [], .str []] [(0, 1, (.t 21))]),
 .o 23 (.bslice false 2 1 [.str [], .str []] [(0, 2, (.t 22))]),
 .o 24 (.callF F_slices_Insert_api_File_api_File [(.t 19), (.t 20), (.t 23)]),
 .o 25 (.nilchk (.t 15)),
 .o 26 (.fieldA 1 (.t 25)),
 .n (.store 1 (.t 26) (.t 24))])
 (.skip))))
 (.keep [5] (.seq (.reg [.o 27 (.mov (.t 5)),
 .o 4 (.mov (.t 27))])
 (.ret)))))))
def a_world_Kernel_made : AFun := ⟨2, c_world_Kernel_made, [.tmp 4]⟩

/- (*patois/world.Kernel).row -/
def c_world_Kernel_row_l0 : ACode :=
 .keep [1, 2, 6, 13, 14, 15] (.seq (.reg [.o 16 (.bin .lss (.t 15) (.t 14))])
 (.keep [1, 2, 6, 13, 14, 15, 16] (.seq (.cond (.t 16)
 (.skip)
 (.exit 0))
 (.keep [1, 2, 6, 13, 14, 15] (.seq (.block 1 (.seq (.reg [.o 17 (.indexA 7 (.t 13) (.t 15)),
 .o 18 (.load 7 true (.t 17)),
 .o 9 (.alloc [.str [], .sl none 1 0 (some 0), .bool false, .bool false, .bool false, .str [], .int .i64 0]),
 .n (.store 7 (.t 9) (.t 18))])
 (.keep [1, 2, 6, 9, 13, 14, 15] (.seq (.reg [.o 19 (.fieldA 0 (.t 9)),
 .o 20 (.load 1 false (.t 19)),
 .o 21 (.mov (.t 1)),
 .o 22 (.bin .eql (.t 20) (.t 21)),
 .o 23 (.mov (.t 22)),
 .g (some 24) 23 true (.fieldA 2 (.t 9)),
 .g (some 25) 23 true (.load 1 false (.t 24)),
 .g (some 26) 23 true (.mov (.t 25)),
 .g (some 27) 26 false (.fieldA 1 (.t 9)),
 .g (some 28) 26 false (.load 1 false (.t 27)),
 .g (some 29) 26 false (.mov (.t 2)),
 .g (some 30) 26 false (.callF F_slices_Equal_string_string [(.t 28), (.t 29)]),
 .g (some 31) 23 true (.pick (.t 26) (.c (.bool true)) (.t 30)),
 .o 32 (.pick (.t 23) (.t 31) (.c (.bool false)))])
 (.keep [1, 2, 6, 9, 13, 14, 15, 32] (.cond (.t 32)
 (.seq (.reg [.o 33 (.load 7 true (.t 9)),
 .n (.store 7 (.t 6) (.t 33)),
 .o 7 (.mov (.c (.bool true)))])
 (.ret))
 (.skip)))))))
 (.keep [1, 2, 6, 13, 14, 15] (.reg [.o 34 (.bin .add (.t 15) (.c (.int .i64 1))),
 .o 15 (.mov (.t 34))])))))))
def c_world_Kernel_row : ACode :=
 .seq (.reg [.o 6 (.alloc [.str [], .sl none 1 0 (some 0), .bool false, .bool false, .bool false, .str [], .int .i64 0]),
 .o 7 (.mov (.c (.bool false)))])
 (.keep [0, 1, 2, 6] (.seq (.seq (.reg [.o 10 (.mov (.t 0)),
 .o 11 (.nilchk (.t 10)),
 .o 12 (.fieldA 2 (.t 11)),
 .o 13 (.load 1 false (.t 12)),
 .o 14 (.len false (.t 13)),
 .o 15 (.mov (.c (.int .i64 0)))])
 (.keep [1, 2, 6, 13, 14, 15] (.block 0 (.loop c_world_Kernel_row_l0))))
 (.keep [6] (.seq (.reg [.o 35 (.build [.str [], .sl none 1 0 (some 0), .bool false, .bool false, .bool false, .str [], .int .i64 0] [(6, 1, (.c (.int .i64 127)))]),
 .n (.store 7 (.t 6) (.t 35)),
 .o 7 (.mov (.c (.bool false)))])
 (.ret)))))
def a_world_Kernel_row : AFun := ⟨3, c_world_Kernel_row, [.cell 6 7 true, .tmp 7]⟩

/- patois/world.copied -/
def c_world_copied_l0 : ACode :=
 .keep [3, 6, 7, 8] (.seq (.reg [.o 9 (.bin .lss (.t 8) (.t 7))])
 (.keep [3, 6, 7, 8, 9] (.seq (.cond (.t 9)
 (.skip)
 (.exit 0))
 (.keep [3, 6, 7, 8] (.seq (.block 1 (.seq (.reg [.o 10 (.indexA 5 (.t 6) (.t 8)),
 .o 11 (.load 5 true (.t 10)),
 .o 5 (.alloc [.int .i64 0, .int .i64 0, .str [], .str [], .sl none 1 0 none]),
 .n (.store 5 (.t 5) (.t 11))])
 (.keep [3, 5, 6, 7, 8] (.seq (.reg [.o 12 (.fieldA 4 (.t 5)),
 .o 13 (.load 1 false (.t 12)),
 .o 14 (.callF F_slices_Clone_string_string [(.t 13)]),
 .o 15 (.fieldA 4 (.t 5)),
 .n (.store 1 (.t 15) (.t 14))])
 (.keep [3, 5, 6, 7, 8] (.reg [.o 16 (.mov (.t 3)),
 .o 17 (.load 5 true (.t 5)),
 .o 18 (.bslice true 5 1 [.int .i64 0, .int .i64 0, .str [], .str [], .sl none 1 0 none] [(0, 5, (.t 17))]),
 .o 19 (.append false 5 72 (.t 16) (.t 18)),
 .o 3 (.mov (.t 19))]))))))
 (.keep [3, 6, 7, 8] (.reg [.o 20 (.bin .add (.t 8) (.c (.int .i64 1))),
 .o 8 (.mov (.t 20))])))))))
def c_world_copied : ACode :=
 .seq (.reg [.o 2 (.mov (.c (.sl none 5 0 none)))])
 (.keep [0] (.seq (.reg [.o 3 (.mov (.c (.sl none 5 0 none)))])
 (.keep [0, 3] (.seq (.seq (.reg [.o 6 (.mov (.t 0)),
 .o 7 (.len false (.t 6)),
 .o 8 (.mov (.c (.int .i64 0)))])
 (.keep [3, 6, 7, 8] (.block 0 (.loop c_world_copied_l0))))
 (.keep [3] (.seq (.reg [.o 21 (.mov (.t 3)),
 .o 2 (.mov (.t 21))])
 (.ret)))))))
def a_world_copied : AFun := ⟨1, c_world_copied, [.tmp 2]⟩

/- patois/patoisref.SameEvent -/
def c_patoisref_SameEvent : ACode :=
 .seq (.reg [.o 2 (.box (.t 0)),
 .o 3 (.box (.t 1)),
 .o 4 (.mov (.c (.bool false)))])
 (.keep [2, 3] (.seq (.reg [.o 6 (.fieldA 4 (.t 2)),
 .o 7 (.load 1 false (.t 6)),
 .o 8 (.fieldA 4 (.t 3)),
 .o 9 (.load 1 false (.t 8)),
 .o 10 (.callF F_patoisref_SameTexts [(.t 7), (.t 9)]),
 .o 5 (.mov (.t 10))])
 (.keep [2, 3, 5] (.seq (.reg [.o 11 (.fieldA 0 (.t 2)),
 .o 12 (.load 1 false (.t 11)),
 .o 13 (.fieldA 0 (.t 3)),
 .o 14 (.load 1 false (.t 13)),
 .o 15 (.bin .eql (.t 12) (.t 14)),
 .o 16 (.mov (.t 15)),
 .g (some 17) 16 true (.fieldA 1 (.t 2)),
 .g (some 18) 16 true (.load 1 false (.t 17)),
 .g (some 19) 16 true (.fieldA 1 (.t 3)),
 .g (some 20) 16 true (.load 1 false (.t 19)),
 .g (some 21) 16 true (.bin .eql (.t 18) (.t 20)),
 .o 22 (.pick (.t 16) (.t 21) (.c (.bool false))),
 .o 23 (.mov (.t 22)),
 .g (some 24) 23 true (.fieldA 2 (.t 2)),
 .g (some 25) 23 true (.load 1 false (.t 24)),
 .g (some 26) 23 true (.fieldA 2 (.t 3)),
 .g (some 27) 23 true (.load 1 false (.t 26)),
 .g (some 28) 23 true (.bin .eql (.t 25) (.t 27)),
 .o 29 (.pick (.t 23) (.t 28) (.c (.bool false))),
 .o 30 (.mov (.t 29)),
 .g (some 31) 30 true (.fieldA 3 (.t 2)),
 .g (some 32) 30 true (.load 1 false (.t 31)),
 .g (some 33) 30 true (.fieldA 3 (.t 3)),
 .g (some 34) 30 true (.load 1 false (.t 33)),
 .g (some 35) 30 true (.bin .eql (.t 32) (.t 34)),
 .o 36 (.pick (.t 30) (.t 35) (.c (.bool false))),
 .o 37 (.mov (.t 36)),
 .g (some 38) 37 true (.mov (.t 5)),
 .o 39 (.pick (.t 37) (.t 38) (.c (.bool false))),
 .o 4 (.mov (.t 39))])
 (.ret)))))
def a_patoisref_SameEvent : AFun := ⟨2, c_patoisref_SameEvent, [.tmp 4]⟩

/- slices.DeleteFunc[[]patois/api.Event,patois/api.Event] -/
def c_slices_DeleteFunc_api_Event_api_Event_l0 : ACode :=
 .keep [0, 1, 5, 6] (.seq (.seq (.reg [.o 16 (.mov (.t 6)),
 .o 17 (.mov (.t 0)),
 .o 18 (.len false (.t 17)),
 .o 19 (.bin .lss (.t 16) (.t 18))])
 (.keep [0, 1, 5, 6, 19] (.cond (.t 19)
 (.skip)
 (.exit 0))))
 (.keep [0, 1, 5, 6] (.seq (.block 1 (.seq (.reg [.o 22 (.mov (.t 0)),
 .o 23 (.mov (.t 6)),
 .o 24 (.indexA 5 (.t 22) (.t 23)),
 .o 25 (.load 5 true (.t 24)),
 .o 7 (.alloc [.int .i64 0, .int .i64 0, .str [], .str [], .sl none 1 0 (some 0)]),
 .n (.store 5 (.t 7) (.t 25))])
 (.keep [0, 1, 5, 6, 7] (.seq (.reg [.o 26 (.mov (.t 1)),
 .o 27 (.load 5 true (.t 7)),
 .o 28 (.callV (.t 26) [(.t 27)]),
 .o 29 (.not (.t 28))])
 (.keep [0, 1, 5, 6, 7, 29] (.cond (.t 29)
 (.seq (.reg [.o 30 (.mov (.t 0)),
 .o 31 (.mov (.t 5)),
 .o 32 (.load 5 true (.t 7)),
 .o 33 (.indexA 5 (.t 30) (.t 31)),
 .n (.store 5 (.t 33) (.t 32))])
 (.keep [0, 1, 5, 6] (.reg [.o 34 (.mov (.t 5)),
 .o 35 (.bin .add (.t 34) (.c (.int .i64 1))),
 .o 5 (.mov (.t 35))])))
 (.skip)))))))
 (.keep [0, 1, 5, 6] (.reg [.o 20 (.mov (.t 6)),
 .o 21 (.bin .add (.t 20) (.c (.int .i64 1))),
 .o 6 (.mov (.t 21))])))))
def c_slices_DeleteFunc_api_Event_api_Event : ACode :=
 .seq (.reg [.o 4 (.mov (.c (.sl none 5 0 (some 0))))])
 (.keep [0, 1] (.seq (.reg [.o 8 (.mov (.t 0)),
 .o 9 (.mov (.t 1)),
 .o 10 (.callF F_slices_IndexFunc_api_Event_api_Event [(.t 8), (.t 9)]),
 .o 5 (.mov (.t 10))])
 (.keep [0, 1, 5] (.seq (.seq (.reg [.o 11 (.mov (.t 5)),
 .o 12 (.bin .eql (.t 11) (.c (.int .i64 (-1))))])
 (.keep [0, 1, 5, 12] (.cond (.t 12)
 (.seq (.reg [.o 13 (.mov (.t 0)),
 .o 4 (.mov (.t 13))])
 (.ret))
 (.skip))))
 (.keep [0, 1, 5] (.seq (.seq (.reg [.o 14 (.mov (.t 5)),
 .o 15 (.bin .add (.t 14) (.c (.int .i64 1))),
 .o 6 (.mov (.t 15))])
 (.keep [0, 1, 5, 6] (.block 0 (.loop c_slices_DeleteFunc_api_Event_api_Event_l0))))
 (.keep [0, 5] (.seq (.reg [.o 36 (.mov (.t 0)),
 .o 37 (.mov (.t 5)),
 .o 38 (.slc 5 (.t 36) (some (.t 37)) none),
 .n (.clear 5 [.int .i64 0, .int .i64 0, .str [], .str [], .sl none 1 0 (some 0)] (.t 38))])
 (.keep [0, 5] (.seq (.reg [.o 39 (.mov (.t 0)),
 .o 40 (.mov (.t 5)),
 .o 41 (.slc 5 (.t 39) none (some (.t 40))),
 .o 4 (.mov (.t 41))])
 (.ret)))))))))))
def a_slices_DeleteFunc_api_Event_api_Event : AFun := ⟨2, c_slices_DeleteFunc_api_Event_api_Event, [.tmp 4]⟩

/- patois/world.Erase$1 -/
def c_world_Erase_1 : ACode :=
 .seq (.reg [.o 1 (.box (.t 0)),
 .o 2 (.mov (.c (.bool false)))])
 (.keep [1] (.seq (.reg [.o 3 (.fieldA 0 (.t 1)),
 .o 4 (.load 1 false (.t 3)),
 .o 5 (.bin .eql (.t 4) (.c (.int .i64 4))),
 .o 6 (.mov (.t 5)),
 .g (some 7) 6 false (.fieldA 0 (.t 1)),
 .g (some 8) 6 false (.load 1 false (.t 7)),
 .g (some 9) 6 false (.bin .eql (.t 8) (.c (.int .i64 5))),
 .o 10 (.pick (.t 6) (.c (.bool true)) (.t 9)),
 .o 11 (.mov (.t 10)),
 .g (some 12) 11 false (.fieldA 0 (.t 1)),
 .g (some 13) 11 false (.load 1 false (.t 12)),
 .g (some 14) 11 false (.bin .eql (.t 13) (.c (.int .i64 6))),
 .o 15 (.pick (.t 11) (.c (.bool true)) (.t 14)),
 .o 2 (.mov (.t 15))])
 (.ret)))
def a_world_Erase_1 : AFun := ⟨1, c_world_Erase_1, [.tmp 2]⟩

/- patois/patoissee.Same -/
def c_patoissee_Same : ACode :=
 .seq (.reg [.o 3 (.box (.t 1)),
 .o 4 (.mov (.c (.bool false)))])
 (.keep [0, 3] (.seq (.reg [.o 6 (.mov (.t 0)),
 .o 7 (.callF F_patoissee_Fault [(.t 6)]),
 .o 5 (.alloc [.int .i64 0, .sl none 1 0 (some 0)]),
 .n (.store 2 (.t 5) (.t 7))])
 (.keep [3, 5] (.seq (.reg [.o 8 (.load 2 true (.t 5)),
 .o 9 (.load 2 true (.t 3)),
 .o 10 (.callF F_patoisref_SameFault [(.t 8), (.t 9)]),
 .o 4 (.mov (.t 10))])
 (.ret)))))
def a_patoissee_Same : AFun := ⟨2, c_patoissee_Same, [.tmp 4]⟩

/- patois/patoisref.Bare -/
def c_patoisref_Bare : ACode :=
 .seq (.reg [.o 2 (.alloc [.int .i64 0, .sl none 1 0 (some 0)])])
 (.keep [0, 2] (.seq (.reg [.o 3 (.mov (.t 0)),
 .o 4 (.build [.int .i64 0, .sl none 1 0 (some 0)] [(0, 1, (.t 3))]),
 .n (.store 2 (.t 2) (.t 4))])
 (.ret)))
def a_patoisref_Bare : AFun := ⟨1, c_patoisref_Bare, [.cell 2 2 true]⟩

/- slices.ContainsFunc[[]string,string] -/
def c_slices_ContainsFunc_string_string : ACode :=
 .seq (.reg [.o 4 (.mov (.c (.bool false)))])
 (.keep [0, 1] (.seq (.reg [.o 5 (.mov (.t 0)),
 .o 6 (.mov (.t 1)),
 .o 7 (.callF F_slices_IndexFunc_string_string [(.t 5), (.t 6)]),
 .o 8 (.bin .geq (.t 7) (.c (.int .i64 0))),
 .o 4 (.mov (.t 8))])
 (.ret)))
def a_slices_ContainsFunc_string_string : AFun := ⟨2, c_slices_ContainsFunc_string_string, [.tmp 4]⟩

/- patois/world.May$1 -/
def c_world_May_1 : ACode :=
 .seq (.reg [.o 2 (.mov (.c (.bool false)))])
 (.keep [0] (.seq (.reg [.o 3 (.mov (.t 0)),
 .o 4 (.len true (.t 3)),
 .o 5 (.bin .gtr (.t 4) (.c (.int .i64 2000))),
 .o 2 (.mov (.t 5))])
 (.ret)))
def a_world_May_1 : AFun := ⟨1, c_world_May_1, [.tmp 2]⟩

/- (*patois/patoisref4.Kernel).put -/
def c_patoisref4_Kernel_put_l0 : ACode :=
 .keep [0, 3, 5] (.seq (.seq (.dreg [⟨0, .o 22 (.mov (.t 5)), [], []⟩,
 ⟨1, .o 23 (.mov (.t 0)), [], []⟩,
 ⟨2, .o 24 (.nilchk (.t 23)), [1], []⟩,
 ⟨3, .o 25 (.fieldA 0 (.t 24)), [1, 2], []⟩,
 ⟨4, .o 26 (.load 1 false (.t 25)), [1, 2, 3], []⟩,
 ⟨5, .o 27 (.len false (.t 26)), [1, 2, 3, 4], []⟩,
 ⟨6, .o 28 (.bin .lss (.t 22) (.t 27)), [0, 1, 2, 3, 4, 5], []⟩,
 ⟨7, .o 29 (.mov (.t 28)), [0, 1, 2, 3, 4, 5, 6], []⟩,
 ⟨8, .g (some 30) 29 true (.mov (.t 0)), [0, 1, 2, 3, 4, 5, 6, 7], []⟩,
 ⟨9, .g (some 31) 29 true (.nilchk (.t 30)), [0, 1, 2, 3, 4, 5, 6, 7, 8], []⟩,
 ⟨10, .g (some 32) 29 true (.fieldA 0 (.t 31)), [0, 1, 2, 3, 4, 5, 6, 7, 8, 9], []⟩,
 ⟨11, .g (some 33) 29 true (.load 1 false (.t 32)), [0, 1, 2, 3, 4, 5, 6, 7, 8, 9, 10], []⟩,
 ⟨12, .g (some 34) 29 true (.mov (.t 5)), [0, 1, 2, 3, 4, 5, 6, 7], []⟩,
 ⟨13, .g (some 35) 29 true (.indexA 2 (.t 33) (.t 34)), [0, 1, 2, 3, 4, 5, 6, 7, 8, 9, 10, 11, 12], []⟩,
 ⟨14, .g (some 36) 29 true (.fieldA 0 (.t 35)), [0, 1, 2, 3, 4, 5, 6, 7, 8, 9, 10, 11, 12, 13], []⟩,
 ⟨15, .g (some 37) 29 true (.load 1 false (.t 36)), [0, 1, 2, 3, 4, 5, 6, 7, 8, 9, 10, 11, 12, 13, 14], []⟩,
 ⟨16, .g (some 38) 29 true (.fieldA 0 (.t 3)), [0, 1, 2, 3, 4, 5, 6, 7], []⟩,
 ⟨17, .g (some 39) 29 true (.load 1 false (.t 38)), [0, 1, 2, 3, 4, 5, 6, 7, 16], []⟩,
 ⟨18, .g (some 40) 29 true (.bin .lss (.t 37) (.t 39)), [0, 1, 2, 3, 4, 5, 6, 7, 8, 9, 10, 11, 12, 13, 14, 15, 16, 17], []⟩,
 ⟨19, .o 41 (.pick (.t 29) (.t 40) (.c (.bool false))), [0, 1, 2, 3, 4, 5, 6, 7, 8, 9, 10, 11, 12, 13, 14, 15, 16, 17, 18], []⟩])
 (.keep [0, 3, 5, 41] (.cond (.t 41)
 (.skip)
 (.exit 0))))
 (.keep [0, 3, 5] (.block 1 (.reg [.o 42 (.mov (.t 5)),
 .o 43 (.bin .add (.t 42) (.c (.int .i64 1))),
 .o 5 (.mov (.t 43))]))))
def c_patoisref4_Kernel_put : ACode :=
 .seq (.reg [.o 3 (.box (.t 1))])
 (.keep [0, 3] (.seq (.reg [.o 7 (.mov (.t 0)),
 .o 8 (.fieldA 0 (.t 3)),
 .o 9 (.load 1 false (.t 8)),
 .o 10 (.callF F_patoisref4_Kernel_find [(.t 7), (.t 9)]),
 .o 4 (.mov (.t 10))])
 (.keep [0, 3, 4] (.seq (.seq (.reg [.o 11 (.mov (.t 4)),
 .o 12 (.bin .geq (.t 11) (.c (.int .i64 0)))])
 (.keep [0, 3, 4, 12] (.cond (.t 12)
 (.seq (.dreg [⟨0, .o 13 (.mov (.t 0)), [], []⟩,
 ⟨1, .o 14 (.nilchk (.t 13)), [0], []⟩,
 ⟨2, .o 15 (.fieldA 0 (.t 14)), [0, 1], []⟩,
 ⟨3, .o 16 (.load 1 false (.t 15)), [0, 1, 2], []⟩,
 ⟨4, .o 17 (.mov (.t 4)), [], []⟩,
 ⟨5, .o 18 (.fieldA 1 (.t 3)), [], []⟩,
 ⟨6, .o 19 (.load 1 false (.t 18)), [5], []⟩,
 ⟨7, .o 20 (.indexA 2 (.t 16) (.t 17)), [0, 1, 2, 3, 4, 5, 6], []⟩,
 ⟨8, .o 21 (.fieldA 1 (.t 20)), [0, 1, 2, 3, 4, 5, 6, 7], []⟩,
 ⟨9, .n (.store 1 (.t 21) (.t 19)), [0, 1, 2, 3, 4, 5, 6, 7, 8], []⟩])
 (.ret))
 (.skip))))
 (.keep [0, 3] (.seq (.reg [.o 5 (.mov (.c (.int .i64 0)))])
 (.keep [0, 3, 5] (.seq (.block 0 (.loop c_patoisref4_Kernel_put_l0))
 (.keep [0, 3, 5] (.seq (.dreg [⟨0, .o 44 (.mov (.t 0)), [], []⟩,
 ⟨1, .o 45 (.nilchk (.t 44)), [0], []⟩,
 ⟨2, .o 46 (.fieldA 0 (.t 45)), [0, 1], []⟩,
 ⟨3, .o 47 (.load 1 false (.t 46)), [0, 1, 2], []⟩,
 ⟨4, .o 48 (.len false (.t 47)), [0, 1, 2, 3], []⟩,
 ⟨5, .o 49 (.bin .add (.t 48) (.c (.int .i64 1))), [0, 1, 2, 3, 4], []⟩,
 ⟨7, .o 51 (.mov (.t 0)), [], []⟩,
 ⟨8, .o 52 (.nilchk (.t 51)), [7], []⟩,
 ⟨9, .o 53 (.fieldA 0 (.t 52)), [7, 8], []⟩,
 ⟨10, .o 54 (.load 1 false (.t 53)), [7, 8, 9], []⟩,
 ⟨11, .o 55 (.mov (.t 5)), [], []⟩,
 ⟨12, .o 56 (.slc 2 (.t 54) none (some (.t 55))), [7, 8, 9, 10, 11], []⟩,
 ⟨6, .o 50 (.mkSlice false 2 32 [.str [], .str []] (.c (.int .i64 0)) (.t 49)), [0, 1, 2, 3, 4, 5], [10]⟩,
 ⟨13, .o 57 (.append true 2 32 (.t 50) (.t 56)), [0, 1, 2, 3, 4, 5, 6, 7, 8, 9, 10, 11, 12], []⟩,
 ⟨14, .o 6 (.mov (.t 57)), [0, 1, 2, 3, 4, 5, 6, 7, 8, 9, 10, 11, 12, 13], []⟩])
 (.keep [0, 3, 5, 6] (.seq (.reg [.o 58 (.mov (.t 6)),
 .o 59 (.load 2 true (.t 3)),
 .o 60 (.bslice false 2 1 [.str [], .str []] [(0, 2, (.t 59))]),
 .o 61 (.append true 2 32 (.t 58) (.t 60)),
 .o 6 (.mov (.t 61))])
 (.keep [0, 5, 6] (.reg [.o 62 (.mov (.t 0)),
 .o 63 (.mov (.t 6)),
 .o 64 (.mov (.t 0)),
 .o 65 (.nilchk (.t 64)),
 .o 66 (.fieldA 0 (.t 65)),
 .o 67 (.load 1 false (.t 66)),
 .o 68 (.mov (.t 5)),
 .o 69 (.slc 2 (.t 67) (some (.t 68)) none),
 .o 70 (.append true 2 32 (.t 63) (.t 69)),
 .o 71 (.nilchk (.t 62)),
 .o 72 (.fieldA 0 (.t 71)),
 .n (.store 1 (.t 72) (.t 70))]))))))))))))))
def a_patoisref4_Kernel_put : AFun := ⟨2, c_patoisref4_Kernel_put, []⟩

/- (*patois/patoisref4.Kernel).row -/
def c_patoisref4_Kernel_row_l0 : ACode :=
 .keep [0, 1, 2, 7] (.seq (.seq (.reg [.o 10 (.mov (.t 7)),
 .o 11 (.mov (.t 0)),
 .o 12 (.nilchk (.t 11)),
 .o 13 (.fieldA 1 (.t 12)),
 .o 14 (.load 1 false (.t 13)),
 .o 15 (.len false (.t 14)),
 .o 16 (.bin .lss (.t 10) (.t 15))])
 (.keep [0, 1, 2, 7, 16] (.cond (.t 16)
 (.skip)
 (.exit 0))))
 (.keep [0, 1, 2, 7] (.seq (.block 1 (.seq (.reg [.o 19 (.mov (.t 0)),
 .o 20 (.nilchk (.t 19)),
 .o 21 (.fieldA 1 (.t 20)),
 .o 22 (.load 1 false (.t 21)),
 .o 23 (.mov (.t 7)),
 .o 24 (.indexA 7 (.t 22) (.t 23)),
 .o 25 (.load 7 true (.t 24)),
 .o 8 (.alloc [.str [], .sl none 1 0 (some 0), .bool false, .bool false, .bool false, .str [], .int .i64 0]),
 .n (.store 7 (.t 8) (.t 25))])
 (.keep [0, 1, 2, 7, 8] (.seq (.reg [.o 26 (.fieldA 1 (.t 8)),
 .o 27 (.load 1 false (.t 26)),
 .o 28 (.mov (.t 2)),
 .o 29 (.callF F_patoisref_SameTexts [(.t 27), (.t 28)]),
 .o 9 (.mov (.t 29))])
 (.keep [0, 1, 2, 7, 8, 9] (.seq (.reg [.o 30 (.fieldA 0 (.t 8)),
 .o 31 (.load 1 false (.t 30)),
 .o 32 (.mov (.t 1)),
 .o 33 (.bin .eql (.t 31) (.t 32)),
 .o 34 (.mov (.t 33)),
 .g (some 35) 34 true (.fieldA 2 (.t 8)),
 .g (some 36) 34 true (.load 1 false (.t 35)),
 .g (some 37) 34 true (.mov (.t 36)),
 .g (some 38) 37 false (.mov (.t 9)),
 .g (some 39) 34 true (.pick (.t 37) (.c (.bool true)) (.t 38)),
 .o 40 (.pick (.t 34) (.t 39) (.c (.bool false)))])
 (.keep [0, 1, 2, 7, 40] (.cond (.t 40)
 (.seq (.reg [.o 41 (.mov (.t 7)),
 .o 6 (.mov (.t 41))])
 (.ret))
 (.skip)))))))))
 (.keep [0, 1, 2, 7] (.reg [.o 17 (.mov (.t 7)),
 .o 18 (.bin .add (.t 17) (.c (.int .i64 1))),
 .o 7 (.mov (.t 18))])))))
def c_patoisref4_Kernel_row : ACode :=
 .seq (.reg [.o 6 (.mov (.c (.int .i64 0)))])
 (.keep [0, 1, 2] (.seq (.seq (.reg [.o 7 (.mov (.c (.int .i64 0)))])
 (.keep [0, 1, 2, 7] (.block 0 (.loop c_patoisref4_Kernel_row_l0))))
 (.keep [] (.seq (.reg [.o 6 (.mov (.c (.int .i64 (-1))))])
 (.ret)))))
def a_patoisref4_Kernel_row : AFun := ⟨3, c_patoisref4_Kernel_row, [.tmp 6]⟩

/- (*patois/patoisref4.Kernel).find -/
def c_patoisref4_Kernel_find_l0 : ACode :=
 .keep [0, 1, 5] (.seq (.seq (.reg [.o 6 (.mov (.t 5)),
 .o 7 (.mov (.t 0)),
 .o 8 (.nilchk (.t 7)),
 .o 9 (.fieldA 0 (.t 8)),
 .o 10 (.load 1 false (.t 9)),
 .o 11 (.len false (.t 10)),
 .o 12 (.bin .lss (.t 6) (.t 11))])
 (.keep [0, 1, 5, 12] (.cond (.t 12)
 (.skip)
 (.exit 0))))
 (.keep [0, 1, 5] (.seq (.block 1 (.seq (.reg [.o 15 (.mov (.t 0)),
 .o 16 (.nilchk (.t 15)),
 .o 17 (.fieldA 0 (.t 16)),
 .o 18 (.load 1 false (.t 17)),
 .o 19 (.mov (.t 5)),
 .o 20 (.indexA 2 (.t 18) (.t 19)),
 .o 21 (.fieldA 0 (.t 20)),
 .o 22 (.load 1 false (.t 21)),
 .o 23 (.mov (.t 1)),
 .o 24 (.bin .eql (.t 22) (.t 23))])
 (.keep [0, 1, 5, 24] (.cond (.t 24)
 (.seq (.reg [.o 25 (.mov (.t 5)),
 .o 4 (.mov (.t 25))])
 (.ret))
 (.skip)))))
 (.keep [0, 1, 5] (.reg [.o 13 (.mov (.t 5)),
 .o 14 (.bin .add (.t 13) (.c (.int .i64 1))),
 .o 5 (.mov (.t 14))])))))
def c_patoisref4_Kernel_find : ACode :=
 .seq (.reg [.o 4 (.mov (.c (.int .i64 0)))])
 (.keep [0, 1] (.seq (.seq (.reg [.o 5 (.mov (.c (.int .i64 0)))])
 (.keep [0, 1, 5] (.block 0 (.loop c_patoisref4_Kernel_find_l0))))
 (.keep [] (.seq (.reg [.o 4 (.mov (.c (.int .i64 (-1))))])
 (.ret)))))
def a_patoisref4_Kernel_find : AFun := ⟨2, c_patoisref4_Kernel_find, [.tmp 4]⟩

/- patois/patoisref.SameFile -/
def c_patoisref_SameFile : ACode :=
 .seq (.reg [.o 2 (.box (.t 0)),
 .o 3 (.box (.t 1)),
 .o 4 (.mov (.c (.bool false)))])
 (.keep [2, 3] (.seq (.reg [.o 5 (.fieldA 0 (.t 2)),
 .o 6 (.load 1 false (.t 5)),
 .o 7 (.fieldA 0 (.t 3)),
 .o 8 (.load 1 false (.t 7)),
 .o 9 (.bin .eql (.t 6) (.t 8)),
 .o 10 (.mov (.t 9)),
 .g (some 11) 10 true (.fieldA 1 (.t 2)),
 .g (some 12) 10 true (.load 1 false (.t 11)),
 .g (some 13) 10 true (.fieldA 1 (.t 3)),
 .g (some 14) 10 true (.load 1 false (.t 13)),
 .g (some 15) 10 true (.bin .eql (.t 12) (.t 14)),
 .o 16 (.pick (.t 10) (.t 15) (.c (.bool false))),
 .o 4 (.mov (.t 16))])
 (.ret)))
def a_patoisref_SameFile : AFun := ⟨2, c_patoisref_SameFile, [.tmp 4]⟩

/- slices.EqualFunc[[]patois/api.Event,[]patois/api.Event,patois/api.Event,patois/api.Event] -/
def c_slices_EqualFunc_api_Event_api_Event_api_Event_api_Event_l0 : ACode :=
 .keep [1, 2, 15, 16, 17] (.seq (.reg [.o 18 (.bin .lss (.t 17) (.t 16))])
 (.keep [1, 2, 15, 16, 17, 18] (.seq (.cond (.t 18)
 (.skip)
 (.exit 0))
 (.keep [1, 2, 15, 16, 17] (.seq (.block 1 (.seq (.reg [.o 19 (.mov (.t 17)),
 .o 20 (.indexA 5 (.t 15) (.t 17)),
 .o 21 (.load 5 true (.t 20)),
 .o 8 (.alloc [.int .i64 0, .int .i64 0, .str [], .str [], .sl none 1 0 (some 0)]),
 .o 7 (.mov (.t 19)),
 .n (.store 5 (.t 8) (.t 21))])
 (.keep [1, 2, 7, 8, 15, 16, 17] (.seq (.reg [.o 22 (.mov (.t 1)),
 .o 23 (.mov (.t 7)),
 .o 24 (.indexA 5 (.t 22) (.t 23)),
 .o 25 (.load 5 true (.t 24)),
 .o 9 (.alloc [.int .i64 0, .int .i64 0, .str [], .str [], .sl none 1 0 (some 0)]),
 .n (.store 5 (.t 9) (.t 25))])
 (.keep [1, 2, 8, 9, 15, 16, 17] (.seq (.reg [.o 26 (.mov (.t 2)),
 .o 27 (.load 5 true (.t 8)),
 .o 28 (.load 5 true (.t 9)),
 .o 29 (.callV (.t 26) [(.t 27), (.t 28)]),
 .o 30 (.not (.t 29))])
 (.keep [1, 2, 15, 16, 17, 30] (.cond (.t 30)
 (.seq (.reg [.o 6 (.mov (.c (.bool false)))])
 (.ret))
 (.skip)))))))))
 (.keep [1, 2, 15, 16, 17] (.reg [.o 31 (.bin .add (.t 17) (.c (.int .i64 1))),
 .o 17 (.mov (.t 31))])))))))
def c_slices_EqualFunc_api_Event_api_Event_api_Event_api_Event : ACode :=
 .seq (.reg [.o 6 (.mov (.c (.bool false)))])
 (.keep [0, 1, 2] (.seq (.seq (.reg [.o 10 (.mov (.t 0)),
 .o 11 (.len false (.t 10)),
 .o 12 (.mov (.t 1)),
 .o 13 (.len false (.t 12)),
 .o 14 (.bin .neq (.t 11) (.t 13))])
 (.keep [0, 1, 2, 14] (.cond (.t 14)
 (.seq (.reg [.o 6 (.mov (.c (.bool false)))])
 (.ret))
 (.skip))))
 (.keep [0, 1, 2] (.seq (.seq (.reg [.o 15 (.mov (.t 0)),
 .o 16 (.len false (.t 15)),
 .o 17 (.mov (.c (.int .i64 0)))])
 (.keep [1, 2, 15, 16, 17] (.block 0 (.loop c_slices_EqualFunc_api_Event_api_Event_api_Event_api_Event_l0))))
 (.keep [] (.seq (.reg [.o 6 (.mov (.c (.bool true)))])
 (.ret)))))))
def a_slices_EqualFunc_api_Event_api_Event_api_Event_api_Event : AFun := ⟨3, c_slices_EqualFunc_api_Event_api_Event_api_Event_api_Event, [.tmp 6]⟩

/- patois/world.same -/
def c_world_same : ACode :=
 .seq (.reg [.o 2 (.box (.t 0)),
 .o 3 (.box (.t 1)),
 .o 4 (.mov (.c (.bool false)))])
 (.keep [2, 3] (.seq (.reg [.o 5 (.fieldA 0 (.t 2)),
 .o 6 (.load 1 false (.t 5)),
 .o 7 (.fieldA 0 (.t 3)),
 .o 8 (.load 1 false (.t 7)),
 .o 9 (.bin .eql (.t 6) (.t 8)),
 .o 10 (.mov (.t 9)),
 .g (some 11) 10 true (.fieldA 1 (.t 2)),
 .g (some 12) 10 true (.load 1 false (.t 11)),
 .g (some 13) 10 true (.fieldA 1 (.t 3)),
 .g (some 14) 10 true (.load 1 false (.t 13)),
 .g (some 15) 10 true (.bin .eql (.t 12) (.t 14)),
 .o 16 (.pick (.t 10) (.t 15) (.c (.bool false))),
 .o 17 (.mov (.t 16)),
 .g (some 18) 17 true (.fieldA 2 (.t 2)),
 .g (some 19) 17 true (.load 1 false (.t 18)),
 .g (some 20) 17 true (.fieldA 2 (.t 3)),
 .g (some 21) 17 true (.load 1 false (.t 20)),
 .g (some 22) 17 true (.bin .eql (.t 19) (.t 21)),
 .o 23 (.pick (.t 17) (.t 22) (.c (.bool false))),
 .o 24 (.mov (.t 23)),
 .g (some 25) 24 true (.fieldA 3 (.t 2)),
 .g (some 26) 24 true (.load 1 false (.t 25)),
 .g (some 27) 24 true (.fieldA 3 (.t 3)),
 .g (some 28) 24 true (.load 1 false (.t 27)),
 .g (some 29) 24 true (.bin .eql (.t 26) (.t 28)),
 .o 30 (.pick (.t 24) (.t 29) (.c (.bool false))),
 .o 31 (.mov (.t 30)),
 .g (some 32) 31 true (.fieldA 4 (.t 2)),
 .g (some 33) 31 true (.load 1 false (.t 32)),
 .g (some 34) 31 true (.fieldA 4 (.t 3)),
 .g (some 35) 31 true (.load 1 false (.t 34)),
 .g (some 36) 31 true (.callF F_slices_Equal_string_string [(.t 33), (.t 35)]),
 .o 37 (.pick (.t 31) (.t 36) (.c (.bool false))),
 .o 4 (.mov (.t 37))])
 (.ret)))
def a_world_same : AFun := ⟨2, c_world_same, [.tmp 4]⟩

/- slices.pdqsortCmpFunc[patois/api.File] -/
def c_slices_pdqsortCmpFunc_api_File_l0 : ACode :=
 .keep [0, 1, 2, 3, 4, 10, 11] (.block 1 (.seq (.reg [.o 21 (.mov (.t 2)),
 .o 22 (.mov (.t 1)),
 .o 23 (.bin .sub (.t 21) (.t 22)),
 .o 12 (.mov (.t 23))])
 (.keep [0, 1, 2, 3, 4, 10, 11, 12] (.seq (.seq (.reg [.o 24 (.mov (.t 12)),
 .o 25 (.bin .leq (.t 24) (.c (.int .i64 12)))])
 (.keep [0, 1, 2, 3, 4, 10, 11, 12, 25] (.cond (.t 25)
 (.seq (.reg [.o 26 (.mov (.t 0)),
 .o 27 (.mov (.t 1)),
 .o 28 (.mov (.t 2)),
 .o 29 (.mov (.t 4)),
 .o 30 (.callF F_slices_insertionSortCmpFunc_api_File [(.t 26), (.t 27), (.t 28), (.t 29)])])
 (.ret))
 (.skip))))
 (.keep [0, 1, 2, 3, 4, 10, 11, 12] (.seq (.seq (.reg [.o 31 (.mov (.t 3)),
 .o 32 (.bin .eql (.t 31) (.c (.int .i64 0)))])
 (.keep [0, 1, 2, 3, 4, 10, 11, 12, 32] (.cond (.t 32)
 (.seq (.reg [.o 33 (.mov (.t 0)),
 .o 34 (.mov (.t 1)),
 .o 35 (.mov (.t 2)),
 .o 36 (.mov (.t 4)),
 .o 37 (.callF F_slices_heapSortCmpFunc_api_File [(.t 33), (.t 34), (.t 35), (.t 36)])])
 (.ret))
 (.skip))))
 (.keep [0, 1, 2, 3, 4, 10, 11, 12] (.seq (.seq (.reg [.o 38 (.mov (.t 10)),
 .o 39 (.not (.t 38))])
 (.keep [0, 1, 2, 3, 4, 10, 11, 12, 39] (.cond (.t 39)
 (.seq (.reg [.o 40 (.mov (.t 0)),
 .o 41 (.mov (.t 1)),
 .o 42 (.mov (.t 2)),
 .o 43 (.mov (.t 4)),
 .o 44 (.callF F_slices_breakPatternsCmpFunc_api_File [(.t 40), (.t 41), (.t 42), (.t 43)])])
 (.keep [0, 1, 2, 3, 4, 10, 11, 12] (.reg [.o 45 (.mov (.t 3)),
 .o 46 (.bin .sub (.t 45) (.c (.int .i64 1))),
 .o 3 (.mov (.t 46))])))
 (.skip))))
 (.keep [0, 1, 2, 3, 4, 10, 11, 12] (.seq (.reg [.o 48 (.mov (.t 0)),
 .o 49 (.mov (.t 1)),
 .o 50 (.mov (.t 2)),
 .o 51 (.mov (.t 4)),
 .o 52 (.callF F_slices_choosePivotCmpFunc_api_File [(.t 48), (.t 49), (.t 50), (.t 51)]),
 .o 47 (.mov (.t 52)),
 .o 53 (.extract (.t 47) 0),
 .o 54 (.extract (.t 47) 1),
 .o 13 (.mov (.t 53)),
 .o 14 (.mov (.t 54))])
 (.keep [0, 1, 2, 3, 4, 10, 11, 12, 13, 14] (.seq (.seq (.reg [.o 55 (.mov (.t 14)),
 .o 56 (.bin .eql (.t 55) (.c (.int .i64 2)))])
 (.keep [0, 1, 2, 3, 4, 10, 11, 12, 13, 14, 56] (.cond (.t 56)
 (.seq (.reg [.o 57 (.mov (.t 0)),
 .o 58 (.mov (.t 1)),
 .o 59 (.mov (.t 2)),
 .o 60 (.mov (.t 4)),
 .o 61 (.callF F_slices_reverseRangeCmpFunc_api_File [(.t 57), (.t 58), (.t 59), (.t 60)])])
 (.keep [0, 1, 2, 3, 4, 10, 11, 12, 13] (.seq (.reg [.o 62 (.mov (.t 2)),
 .o 63 (.bin .sub (.t 62) (.c (.int .i64 1))),
 .o 64 (.mov (.t 13)),
 .o 65 (.mov (.t 1)),
 .o 66 (.bin .sub (.t 64) (.t 65)),
 .o 67 (.bin .sub (.t 63) (.t 66)),
 .o 13 (.mov (.t 67))])
 (.keep [0, 1, 2, 3, 4, 10, 11, 12, 13] (.reg [.o 14 (.mov (.c (.int .i64 1)))])))))
 (.skip))))
 (.keep [0, 1, 2, 3, 4, 10, 11, 12, 13, 14] (.seq (.seq (.reg [.o 68 (.mov (.t 10)),
 .o 69 (.mov (.t 68)),
 .g (some 70) 69 true (.mov (.t 11)),
 .o 71 (.pick (.t 69) (.t 70) (.c (.bool false))),
 .o 72 (.mov (.t 71)),
 .g (some 73) 72 true (.mov (.t 14)),
 .g (some 74) 72 true (.bin .eql (.t 73) (.c (.int .i64 1))),
 .o 75 (.pick (.t 72) (.t 74) (.c (.bool false)))])
 (.keep [0, 1, 2, 3, 4, 10, 11, 12, 13, 75] (.cond (.t 75)
 (.seq (.reg [.o 76 (.mov (.t 0)),
 .o 77 (.mov (.t 1)),
 .o 78 (.mov (.t 2)),
 .o 79 (.mov (.t 4)),
 .o 80 (.callF F_slices_partialInsertionSortCmpFunc_api_File [(.t 76), (.t 77), (.t 78), (.t 79)])])
 (.keep [0, 1, 2, 3, 4, 10, 11, 12, 13, 80] (.cond (.t 80)
 (.ret)
 (.skip))))
 (.skip))))
 (.keep [0, 1, 2, 3, 4, 10, 11, 12, 13] (.seq (.seq (.dreg [⟨0, .o 81 (.mov (.t 1)), [], []⟩,
 ⟨1, .o 82 (.bin .gtr (.t 81) (.c (.int .i64 0))), [0], []⟩,
 ⟨2, .o 83 (.mov (.t 82)), [0, 1], []⟩,
 ⟨3, .g (some 84) 83 true (.mov (.t 4)), [0, 1, 2], []⟩,
 ⟨4, .g (some 85) 83 true (.mov (.t 0)), [0, 1, 2], []⟩,
 ⟨5, .g (some 86) 83 true (.mov (.t 1)), [0, 1, 2], []⟩,
 ⟨6, .g (some 87) 83 true (.bin .sub (.t 86) (.c (.int .i64 1))), [0, 1, 2, 5], []⟩,
 ⟨7, .g (some 88) 83 true (.indexA 2 (.t 85) (.t 87)), [0, 1, 2, 4, 5, 6], []⟩,
 ⟨8, .g (some 89) 83 true (.load 2 true (.t 88)), [0, 1, 2, 4, 5, 6, 7], []⟩,
 ⟨9, .g (some 90) 83 true (.mov (.t 0)), [0, 1, 2], []⟩,
 ⟨10, .g (some 91) 83 true (.mov (.t 13)), [0, 1, 2], []⟩,
 ⟨11, .g (some 92) 83 true (.indexA 2 (.t 90) (.t 91)), [0, 1, 2, 9, 10], []⟩,
 ⟨12, .g (some 93) 83 true (.load 2 true (.t 92)), [0, 1, 2, 9, 10, 11], []⟩,
 ⟨13, .g (some 94) 83 true (.callV (.t 84) [(.t 89), (.t 93)]), [0, 1, 2, 3, 4, 5, 6, 7, 8, 9, 10, 11, 12], []⟩,
 ⟨14, .g (some 95) 83 true (.bin .lss (.t 94) (.c (.int .i64 0))), [0, 1, 2, 3, 4, 5, 6, 7, 8, 9, 10, 11, 12, 13], []⟩,
 ⟨15, .g (some 96) 83 true (.not (.t 95)), [0, 1, 2, 3, 4, 5, 6, 7, 8, 9, 10, 11, 12, 13, 14], []⟩,
 ⟨16, .o 97 (.pick (.t 83) (.t 96) (.c (.bool false))), [0, 1, 2, 3, 4, 5, 6, 7, 8, 9, 10, 11, 12, 13, 14, 15], []⟩])
 (.keep [0, 1, 2, 3, 4, 10, 11, 12, 13, 97] (.cond (.t 97)
 (.seq (.reg [.o 98 (.mov (.t 0)),
 .o 99 (.mov (.t 1)),
 .o 100 (.mov (.t 2)),
 .o 101 (.mov (.t 13)),
 .o 102 (.mov (.t 4)),
 .o 103 (.callF F_slices_partitionEqualCmpFunc_api_File [(.t 98), (.t 99), (.t 100), (.t 101), (.t 102)]),
 .o 15 (.mov (.t 103))])
 (.keep [0, 2, 3, 4, 10, 11, 15] (.seq (.reg [.o 104 (.mov (.t 15)),
 .o 1 (.mov (.t 104))])
 (.exit 1))))
 (.skip))))
 (.keep [0, 1, 2, 3, 4, 12, 13] (.seq (.reg [.o 106 (.mov (.t 0)),
 .o 107 (.mov (.t 1)),
 .o 108 (.mov (.t 2)),
 .o 109 (.mov (.t 13)),
 .o 110 (.mov (.t 4)),
 .o 111 (.callF F_slices_partitionCmpFunc_api_File [(.t 106), (.t 107), (.t 108), (.t 109), (.t 110)]),
 .o 105 (.mov (.t 111)),
 .o 112 (.extract (.t 105) 0),
 .o 113 (.extract (.t 105) 1),
 .o 16 (.mov (.t 112)),
 .o 17 (.mov (.t 113))])
 (.keep [0, 1, 2, 3, 4, 12, 16, 17] (.seq (.reg [.o 114 (.mov (.t 17)),
 .o 11 (.mov (.t 114))])
 (.keep [0, 1, 2, 3, 4, 11, 12, 16] (.seq (.reg [.o 115 (.mov (.t 16)),
 .o 116 (.mov (.t 1)),
 .o 117 (.bin .sub (.t 115) (.t 116)),
 .o 118 (.mov (.t 2)),
 .o 119 (.mov (.t 16)),
 .o 120 (.bin .sub (.t 118) (.t 119)),
 .o 18 (.mov (.t 117)),
 .o 19 (.mov (.t 120))])
 (.keep [0, 1, 2, 3, 4, 11, 12, 16, 18, 19] (.seq (.reg [.o 121 (.mov (.t 12)),
 .o 122 (.bin .quo (.t 121) (.c (.int .i64 8))),
 .o 20 (.mov (.t 122))])
 (.keep [0, 1, 2, 3, 4, 11, 16, 18, 19, 20] (.seq (.reg [.o 123 (.mov (.t 18)),
 .o 124 (.mov (.t 19)),
 .o 125 (.bin .lss (.t 123) (.t 124))])
 (.keep [0, 1, 2, 3, 4, 11, 16, 18, 19, 20, 125] (.cond (.t 125)
 (.seq (.reg [.o 126 (.mov (.t 18)),
 .o 127 (.mov (.t 20)),
 .o 128 (.bin .geq (.t 126) (.t 127)),
 .o 10 (.mov (.t 128))])
 (.keep [0, 1, 2, 3, 4, 10, 11, 16] (.seq (.reg [.o 129 (.mov (.t 0)),
 .o 130 (.mov (.t 1)),
 .o 131 (.mov (.t 16)),
 .o 132 (.mov (.t 3)),
 .o 133 (.mov (.t 4)),
 .o 134 (.callF F_slices_pdqsortCmpFunc_api_File [(.t 129), (.t 130), (.t 131), (.t 132), (.t 133)])])
 (.keep [0, 2, 3, 4, 10, 11, 16] (.reg [.o 135 (.mov (.t 16)),
 .o 136 (.bin .add (.t 135) (.c (.int .i64 1))),
 .o 1 (.mov (.t 136))])))))
 (.seq (.reg [.o 137 (.mov (.t 19)),
 .o 138 (.mov (.t 20)),
 .o 139 (.bin .geq (.t 137) (.t 138)),
 .o 10 (.mov (.t 139))])
 (.keep [0, 1, 2, 3, 4, 10, 11, 16] (.seq (.reg [.o 140 (.mov (.t 0)),
 .o 141 (.mov (.t 16)),
 .o 142 (.bin .add (.t 141) (.c (.int .i64 1))),
 .o 143 (.mov (.t 2)),
 .o 144 (.mov (.t 3)),
 .o 145 (.mov (.t 4)),
 .o 146 (.callF F_slices_pdqsortCmpFunc_api_File [(.t 140), (.t 142), (.t 143), (.t 144), (.t 145)])])
 (.keep [0, 1, 3, 4, 10, 11, 16] (.reg [.o 147 (.mov (.t 16)),
 .o 2 (.mov (.t 147))])))))))))))))))))))))))))))))))))
def c_slices_pdqsortCmpFunc_api_File : ACode :=
 .seq (.reg [.o 10 (.mov (.c (.bool true)))])
 (.keep [0, 1, 2, 3, 4, 10] (.seq (.reg [.o 11 (.mov (.c (.bool true)))])
 (.keep [0, 1, 2, 3, 4, 10, 11] (.block 0 (.loop c_slices_pdqsortCmpFunc_api_File_l0)))))
def a_slices_pdqsortCmpFunc_api_File : AFun := ⟨5, c_slices_pdqsortCmpFunc_api_File, []⟩

/- math/bits.Len -/
def c_math_bits_Len : ACode :=
 .seq (.reg [.o 2 (.mov (.c (.int .i64 0)))])
 (.keep [0] (.seq (.cond (.c (.bool false))
 (.seq (.reg [.o 3 (.mov (.t 0)),
 .o 4 (.conv .u32 (.t 3)),
 .o 5 (.callF F_math_bits_Len32 [(.t 4)]),
 .o 2 (.mov (.t 5))])
 (.ret))
 (.skip))
 (.keep [0] (.seq (.reg [.o 6 (.mov (.t 0)),
 .o 7 (.callF F_math_bits_Len64 [(.t 6)]),
 .o 2 (.mov (.t 7))])
 (.ret)))))
def a_math_bits_Len : AFun := ⟨1, c_math_bits_Len, [.tmp 2]⟩

/- strings.Compare -/
def c_strings_Compare : ACode :=
 .seq (.reg [.o 4 (.mov (.c (.int .i64 0)))])
 (.keep [0, 1] (.seq (.reg [.o 5 (.mov (.t 0)),
 .o 6 (.mov (.t 1)),
 .o 7 (.callF F_internal_bytealg_CompareString [(.t 5), (.t 6)]),
 .o 4 (.mov (.t 7))])
 (.ret)))
def a_strings_Compare : AFun := ⟨2, c_strings_Compare, [.tmp 4]⟩

/- slices.BinarySearchFunc[[]patois/api.File,patois/api.File,patois/api.File] -/
def c_slices_BinarySearchFunc_api_File_api_File_api_File_l0 : ACode :=
 .keep [0, 2, 4, 8, 9, 10] (.seq (.seq (.reg [.o 15 (.mov (.t 9)),
 .o 16 (.mov (.t 10)),
 .o 17 (.bin .lss (.t 15) (.t 16))])
 (.keep [0, 2, 4, 8, 9, 10, 17] (.cond (.t 17)
 (.skip)
 (.exit 0))))
 (.keep [0, 2, 4, 8, 9, 10] (.block 1 (.seq (.reg [.o 18 (.mov (.t 9)),
 .o 19 (.mov (.t 10)),
 .o 20 (.bin .add (.t 18) (.t 19)),
 .o 21 (.conv .u64 (.t 20)),
 .o 22 (.bin .shr (.t 21) (.c (.int .u64 1))),
 .o 23 (.conv .i64 (.t 22)),
 .o 11 (.mov (.t 23))])
 (.keep [0, 2, 4, 8, 9, 10, 11] (.seq (.dreg [⟨0, .o 24 (.mov (.t 2)), [], []⟩,
 ⟨1, .o 25 (.mov (.t 0)), [], []⟩,
 ⟨2, .o 26 (.mov (.t 11)), [], []⟩,
 ⟨3, .o 27 (.indexA 2 (.t 25) (.t 26)), [1, 2], []⟩,
 ⟨4, .o 28 (.load 2 true (.t 27)), [1, 2, 3], []⟩,
 ⟨5, .o 29 (.load 2 true (.t 4)), [], []⟩,
 ⟨6, .o 30 (.callV (.t 24) [(.t 28), (.t 29)]), [0, 1, 2, 3, 4, 5], []⟩,
 ⟨7, .o 31 (.bin .lss (.t 30) (.c (.int .i64 0))), [0, 1, 2, 3, 4, 5, 6], []⟩])
 (.keep [0, 2, 4, 8, 9, 10, 11, 31] (.cond (.t 31)
 (.reg [.o 32 (.mov (.t 11)),
 .o 33 (.bin .add (.t 32) (.c (.int .i64 1))),
 .o 9 (.mov (.t 33))])
 (.reg [.o 34 (.mov (.t 11)),
 .o 10 (.mov (.t 34))])))))))))
def c_slices_BinarySearchFunc_api_File_api_File_api_File : ACode :=
 .seq (.reg [.o 4 (.box (.t 1)),
 .o 6 (.mov (.c (.int .i64 0))),
 .o 7 (.mov (.c (.bool false)))])
 (.keep [0, 2, 4] (.seq (.reg [.o 12 (.mov (.t 0)),
 .o 13 (.len false (.t 12)),
 .o 8 (.mov (.t 13))])
 (.keep [0, 2, 4, 8] (.seq (.reg [.o 14 (.mov (.t 8)),
 .o 9 (.mov (.c (.int .i64 0))),
 .o 10 (.mov (.t 14))])
 (.keep [0, 2, 4, 8, 9, 10] (.seq (.block 0 (.loop c_slices_BinarySearchFunc_api_File_api_File_api_File_l0))
 (.keep [0, 2, 4, 8, 9] (.seq (.dreg [⟨0, .o 35 (.mov (.t 9)), [], []⟩,
 ⟨1, .o 36 (.mov (.t 9)), [], []⟩,
 ⟨2, .o 37 (.mov (.t 8)), [], []⟩,
 ⟨3, .o 38 (.bin .lss (.t 36) (.t 37)), [1, 2], []⟩,
 ⟨4, .o 39 (.mov (.t 38)), [1, 2, 3], []⟩,
 ⟨5, .g (some 40) 39 true (.mov (.t 2)), [1, 2, 3, 4], []⟩,
 ⟨6, .g (some 41) 39 true (.mov (.t 0)), [1, 2, 3, 4], []⟩,
 ⟨7, .g (some 42) 39 true (.mov (.t 9)), [1, 2, 3, 4], []⟩,
 ⟨8, .g (some 43) 39 true (.indexA 2 (.t 41) (.t 42)), [1, 2, 3, 4, 6, 7], []⟩,
 ⟨9, .g (some 44) 39 true (.load 2 true (.t 43)), [1, 2, 3, 4, 6, 7, 8], []⟩,
 ⟨10, .g (some 45) 39 true (.load 2 true (.t 4)), [1, 2, 3, 4], []⟩,
 ⟨11, .g (some 46) 39 true (.callV (.t 40) [(.t 44), (.t 45)]), [1, 2, 3, 4, 5, 6, 7, 8, 9, 10], []⟩,
 ⟨12, .g (some 47) 39 true (.bin .eql (.t 46) (.c (.int .i64 0))), [1, 2, 3, 4, 5, 6, 7, 8, 9, 10, 11], []⟩,
 ⟨13, .o 48 (.pick (.t 39) (.t 47) (.c (.bool false))), [1, 2, 3, 4, 5, 6, 7, 8, 9, 10, 11, 12], []⟩,
 ⟨14, .o 6 (.mov (.t 35)), [0, 1, 2, 3, 4, 5, 6, 7, 8, 9, 10, 11], []⟩,
 ⟨15, .o 7 (.mov (.t 48)), [0, 1, 2, 3, 4, 5, 6, 7, 8, 9, 10, 11, 12, 13, 14], []⟩])
 (.ret)))))))))
def a_slices_BinarySearchFunc_api_File_api_File_api_File : AFun := ⟨3, c_slices_BinarySearchFunc_api_File_api_File_api_File, [.tmp 6, .tmp 7]⟩

/- slices.Insert[[]patois/api.File,patois/api.File] (not covered: builtin cap) -/
def c_slices_Insert_api_File_api_File : ACode :=
 .seq (.reg [.o 6 (.mov (.c (.sl none 2 0 none)))])
 (.keep [0, 1, 2] (.seq (.reg [.o 10 (.mov (.t 0)),
 .o 11 (.mov (.t 1)),
 .o 12 (.slc 2 (.t 10) (some (.t 11)) none)])
 (.keep [0, 1, 2] (.seq (.reg [.o 13 (.mov (.t 2)),
 .o 14 (.len false (.t 13)),
 .o 7 (.mov (.t 14))])
 (.keep [0, 1, 2, 7] (.seq (.seq (.reg [.o 15 (.mov (.t 7)),
 .o 16 (.bin .eql (.t 15) (.c (.int .i64 0)))])
 (.keep [0, 1, 2, 7, 16] (.cond (.t 16)
 (.seq (.reg [.o 17 (.mov (.t 0)),
 .o 6 (.mov (.t 17))])
 (.ret))
 (.skip))))
 (.keep [0, 1, 2, 7] (.seq (.reg [.o 18 (.mov (.t 0)),
 .o 19 (.len false (.t 18)),
 .o 8 (.mov (.t 19))])
 (.keep [0, 1, 2, 7, 8] (.seq (.seq (.reg [.o 20 (.mov (.t 1)),
 .o 21 (.mov (.t 8)),
 .o 22 (.bin .eql (.t 20) (.t 21))])
 (.keep [0, 1, 2, 7, 8, 22] (.cond (.t 22)
 (.seq (.reg [.o 23 (.mov (.t 0)),
 .o 24 (.mov (.t 2)),
 .o 25 (.append false 2 32 (.t 23) (.t 24)),
 .o 6 (.mov (.t 25))])
 (.ret))
 (.skip))))
 (.keep [0, 1, 2, 7, 8] (.bad))))))))))))
def a_slices_Insert_api_File_api_File : AFun := ⟨3, c_slices_Insert_api_File_api_File, [.tmp 6]⟩

/- slices.Equal[[]string,string] -/
def c_slices_Equal_string_string_l0 : ACode :=
 .keep [0, 1, 12, 13] (.seq (.reg [.o 14 (.bin .lss (.t 13) (.t 12))])
 (.keep [0, 1, 12, 13, 14] (.seq (.cond (.t 14)
 (.skip)
 (.exit 0))
 (.keep [0, 1, 12, 13] (.seq (.block 1 (.seq (.reg [.o 15 (.mov (.t 13)),
 .o 5 (.mov (.t 15))])
 (.keep [0, 1, 5, 12, 13] (.seq (.dreg [⟨0, .o 16 (.mov (.t 0)), [], []⟩,
 ⟨1, .o 17 (.mov (.t 5)), [], []⟩,
 ⟨2, .o 18 (.indexA 1 (.t 16) (.t 17)), [0, 1], []⟩,
 ⟨3, .o 19 (.load 1 false (.t 18)), [0, 1, 2], []⟩,
 ⟨4, .o 20 (.mov (.t 1)), [], []⟩,
 ⟨5, .o 21 (.mov (.t 5)), [], []⟩,
 ⟨6, .o 22 (.indexA 1 (.t 20) (.t 21)), [4, 5], []⟩,
 ⟨7, .o 23 (.load 1 false (.t 22)), [4, 5, 6], []⟩,
 ⟨8, .o 24 (.bin .neq (.t 19) (.t 23)), [0, 1, 2, 3, 4, 5, 6, 7], []⟩])
 (.keep [0, 1, 12, 13, 24] (.cond (.t 24)
 (.seq (.reg [.o 4 (.mov (.c (.bool false)))])
 (.ret))
 (.skip)))))))
 (.keep [0, 1, 12, 13] (.reg [.o 25 (.bin .add (.t 13) (.c (.int .i64 1))),
 .o 13 (.mov (.t 25))])))))))
def c_slices_Equal_string_string : ACode :=
 .seq (.reg [.o 4 (.mov (.c (.bool false)))])
 (.keep [0, 1] (.seq (.seq (.reg [.o 6 (.mov (.t 0)),
 .o 7 (.len false (.t 6)),
 .o 8 (.mov (.t 1)),
 .o 9 (.len false (.t 8)),
 .o 10 (.bin .neq (.t 7) (.t 9))])
 (.keep [0, 1, 10] (.cond (.t 10)
 (.seq (.reg [.o 4 (.mov (.c (.bool false)))])
 (.ret))
 (.skip))))
 (.keep [0, 1] (.seq (.seq (.reg [.o 11 (.mov (.t 0)),
 .o 12 (.len false (.t 11)),
 .o 13 (.mov (.c (.int .i64 0)))])
 (.keep [0, 1, 12, 13] (.block 0 (.loop c_slices_Equal_string_string_l0))))
 (.keep [] (.seq (.reg [.o 4 (.mov (.c (.bool true)))])
 (.ret)))))))
def a_slices_Equal_string_string : AFun := ⟨2, c_slices_Equal_string_string, [.tmp 4]⟩

/- slices.IndexFunc[[]patois/api.Event,patois/api.Event] -/
def c_slices_IndexFunc_api_Event_api_Event_l0 : ACode :=
 .keep [0, 1, 7, 8] (.seq (.reg [.o 9 (.bin .lss (.t 8) (.t 7))])
 (.keep [0, 1, 7, 8, 9] (.seq (.cond (.t 9)
 (.skip)
 (.exit 0))
 (.keep [0, 1, 7, 8] (.seq (.block 1 (.seq (.reg [.o 10 (.mov (.t 8)),
 .o 5 (.mov (.t 10))])
 (.keep [0, 1, 5, 7, 8] (.seq (.reg [.o 11 (.mov (.t 1)),
 .o 12 (.mov (.t 0)),
 .o 13 (.mov (.t 5)),
 .o 14 (.indexA 5 (.t 12) (.t 13)),
 .o 15 (.load 5 true (.t 14)),
 .o 16 (.callV (.t 11) [(.t 15)])])
 (.keep [0, 1, 5, 7, 8, 16] (.cond (.t 16)
 (.seq (.reg [.o 17 (.mov (.t 5)),
 .o 4 (.mov (.t 17))])
 (.ret))
 (.skip)))))))
 (.keep [0, 1, 7, 8] (.reg [.o 18 (.bin .add (.t 8) (.c (.int .i64 1))),
 .o 8 (.mov (.t 18))])))))))
def c_slices_IndexFunc_api_Event_api_Event : ACode :=
 .seq (.reg [.o 4 (.mov (.c (.int .i64 0)))])
 (.keep [0, 1] (.seq (.seq (.reg [.o 6 (.mov (.t 0)),
 .o 7 (.len false (.t 6)),
 .o 8 (.mov (.c (.int .i64 0)))])
 (.keep [0, 1, 7, 8] (.block 0 (.loop c_slices_IndexFunc_api_Event_api_Event_l0))))
 (.keep [] (.seq (.reg [.o 4 (.mov (.c (.int .i64 (-1))))])
 (.ret)))))
def a_slices_IndexFunc_api_Event_api_Event : AFun := ⟨2, c_slices_IndexFunc_api_Event_api_Event, [.tmp 4]⟩

/- patois/patoissee.Fault -/
def c_patoissee_Fault : ACode :=
 .seq (.reg [.o 2 (.alloc [.int .i64 0, .sl none 1 0 (some 0)])])
 (.keep [0, 2] (.seq (.seq (.reg [.o 3 (.mov (.t 0)),
 .o 4 (.eq false .ifc (.t 3) (.c (.nilI)))])
 (.keep [0, 2, 4] (.cond (.t 4)
 (.seq (.reg [.o 5 (.callF F_patoisref_None []),
 .n (.store 2 (.t 2) (.t 5))])
 (.ret))
 (.skip))))
 (.keep [0, 2] (.seq (.reg [.o 6 (.mov (.t 0)),
 .o 7 (.callF F_patoissee_fault [(.t 6), (.c (.int .i64 9))]),
 .n (.store 2 (.t 2) (.t 7))])
 (.ret)))))
def a_patoissee_Fault : AFun := ⟨1, c_patoissee_Fault, [.cell 2 2 true]⟩

/- patois/patoisref.SameFault -/
def c_patoisref_SameFault : ACode :=
 .seq (.reg [.o 2 (.box (.t 0)),
 .o 3 (.box (.t 1)),
 .o 4 (.mov (.c (.bool false)))])
 (.keep [2, 3] (.seq (.reg [.o 6 (.fieldA 1 (.t 2)),
 .o 7 (.load 1 false (.t 6)),
 .o 8 (.fieldA 1 (.t 3)),
 .o 9 (.load 1 false (.t 8)),
 .o 10 (.callF F_patoisref_SameInts [(.t 7), (.t 9)]),
 .o 5 (.mov (.t 10))])
 (.keep [2, 3, 5] (.seq (.reg [.o 11 (.fieldA 0 (.t 2)),
 .o 12 (.load 1 false (.t 11)),
 .o 13 (.fieldA 0 (.t 3)),
 .o 14 (.load 1 false (.t 13)),
 .o 15 (.bin .eql (.t 12) (.t 14)),
 .o 16 (.mov (.t 15)),
 .g (some 17) 16 true (.mov (.t 5)),
 .o 18 (.pick (.t 16) (.t 17) (.c (.bool false))),
 .o 4 (.mov (.t 18))])
 (.ret)))))
def a_patoisref_SameFault : AFun := ⟨2, c_patoisref_SameFault, [.tmp 4]⟩

/- slices.IndexFunc[[]string,string] -/
def c_slices_IndexFunc_string_string_l0 : ACode :=
 .keep [0, 1, 7, 8] (.seq (.reg [.o 9 (.bin .lss (.t 8) (.t 7))])
 (.keep [0, 1, 7, 8, 9] (.seq (.cond (.t 9)
 (.skip)
 (.exit 0))
 (.keep [0, 1, 7, 8] (.seq (.block 1 (.seq (.reg [.o 10 (.mov (.t 8)),
 .o 5 (.mov (.t 10))])
 (.keep [0, 1, 5, 7, 8] (.seq (.reg [.o 11 (.mov (.t 1)),
 .o 12 (.mov (.t 0)),
 .o 13 (.mov (.t 5)),
 .o 14 (.indexA 1 (.t 12) (.t 13)),
 .o 15 (.load 1 false (.t 14)),
 .o 16 (.callV (.t 11) [(.t 15)])])
 (.keep [0, 1, 5, 7, 8, 16] (.cond (.t 16)
 (.seq (.reg [.o 17 (.mov (.t 5)),
 .o 4 (.mov (.t 17))])
 (.ret))
 (.skip)))))))
 (.keep [0, 1, 7, 8] (.reg [.o 18 (.bin .add (.t 8) (.c (.int .i64 1))),
 .o 8 (.mov (.t 18))])))))))
def c_slices_IndexFunc_string_string : ACode :=
 .seq (.reg [.o 4 (.mov (.c (.int .i64 0)))])
 (.keep [0, 1] (.seq (.seq (.reg [.o 6 (.mov (.t 0)),
 .o 7 (.len false (.t 6)),
 .o 8 (.mov (.c (.int .i64 0)))])
 (.keep [0, 1, 7, 8] (.block 0 (.loop c_slices_IndexFunc_string_string_l0))))
 (.keep [] (.seq (.reg [.o 4 (.mov (.c (.int .i64 (-1))))])
 (.ret)))))
def a_slices_IndexFunc_string_string : AFun := ⟨2, c_slices_IndexFunc_string_string, [.tmp 4]⟩

/- slices.insertionSortCmpFunc[patois/api.File] -/
def c_slices_insertionSortCmpFunc_api_File_l0 : ACode :=
 .keep [0, 1, 2, 3, 8, 9] (.seq (.seq (.dreg [⟨0, .o 18 (.mov (.t 9)), [], []⟩,
 ⟨1, .o 19 (.mov (.t 1)), [], []⟩,
 ⟨2, .o 20 (.bin .gtr (.t 18) (.t 19)), [0, 1], []⟩,
 ⟨3, .o 21 (.mov (.t 20)), [0, 1, 2], []⟩,
 ⟨4, .g (some 22) 21 true (.mov (.t 3)), [0, 1, 2, 3], []⟩,
 ⟨5, .g (some 23) 21 true (.mov (.t 0)), [0, 1, 2, 3], []⟩,
 ⟨6, .g (some 24) 21 true (.mov (.t 9)), [0, 1, 2, 3], []⟩,
 ⟨7, .g (some 25) 21 true (.indexA 2 (.t 23) (.t 24)), [0, 1, 2, 3, 5, 6], []⟩,
 ⟨8, .g (some 26) 21 true (.load 2 true (.t 25)), [0, 1, 2, 3, 5, 6, 7], []⟩,
 ⟨9, .g (some 27) 21 true (.mov (.t 0)), [0, 1, 2, 3], []⟩,
 ⟨10, .g (some 28) 21 true (.mov (.t 9)), [0, 1, 2, 3], []⟩,
 ⟨11, .g (some 29) 21 true (.bin .sub (.t 28) (.c (.int .i64 1))), [0, 1, 2, 3, 10], []⟩,
 ⟨12, .g (some 30) 21 true (.indexA 2 (.t 27) (.t 29)), [0, 1, 2, 3, 9, 10, 11], []⟩,
 ⟨13, .g (some 31) 21 true (.load 2 true (.t 30)), [0, 1, 2, 3, 9, 10, 11, 12], []⟩,
 ⟨14, .g (some 32) 21 true (.callV (.t 22) [(.t 26), (.t 31)]), [0, 1, 2, 3, 4, 5, 6, 7, 8, 9, 10, 11, 12, 13], []⟩,
 ⟨15, .g (some 33) 21 true (.bin .lss (.t 32) (.c (.int .i64 0))), [0, 1, 2, 3, 4, 5, 6, 7, 8, 9, 10, 11, 12, 13, 14], []⟩,
 ⟨16, .o 34 (.pick (.t 21) (.t 33) (.c (.bool false))), [0, 1, 2, 3, 4, 5, 6, 7, 8, 9, 10, 11, 12, 13, 14, 15], []⟩])
 (.keep [0, 1, 2, 3, 8, 9, 34] (.cond (.t 34)
 (.skip)
 (.exit 2))))
 (.keep [0, 1, 2, 3, 8, 9] (.seq (.block 3 (.dreg [⟨0, .o 37 (.mov (.t 0)), [], []⟩,
 ⟨1, .o 38 (.mov (.t 9)), [], []⟩,
 ⟨2, .o 39 (.mov (.t 0)), [], []⟩,
 ⟨3, .o 40 (.mov (.t 9)), [], []⟩,
 ⟨4, .o 41 (.bin .sub (.t 40) (.c (.int .i64 1))), [3], []⟩,
 ⟨5, .o 42 (.mov (.t 0)), [], []⟩,
 ⟨6, .o 43 (.mov (.t 9)), [], []⟩,
 ⟨7, .o 44 (.bin .sub (.t 43) (.c (.int .i64 1))), [6], []⟩,
 ⟨8, .o 45 (.indexA 2 (.t 42) (.t 44)), [5, 6, 7], []⟩,
 ⟨9, .o 46 (.load 2 true (.t 45)), [5, 6, 7, 8], []⟩,
 ⟨10, .o 47 (.mov (.t 0)), [], []⟩,
 ⟨11, .o 48 (.mov (.t 9)), [], []⟩,
 ⟨12, .o 49 (.indexA 2 (.t 47) (.t 48)), [10, 11], []⟩,
 ⟨13, .o 50 (.load 2 true (.t 49)), [10, 11, 12], []⟩,
 ⟨14, .o 51 (.indexA 2 (.t 37) (.t 38)), [0, 1, 5, 6, 7, 8, 9, 10, 11, 12, 13], []⟩,
 ⟨15, .n (.store 2 (.t 51) (.t 46)), [0, 1, 5, 6, 7, 8, 9, 10, 11, 12, 13, 14], []⟩,
 ⟨16, .o 52 (.indexA 2 (.t 39) (.t 41)), [0, 1, 2, 3, 4, 5, 6, 7, 8, 9, 10, 11, 12, 13, 14, 15], []⟩,
 ⟨17, .n (.store 2 (.t 52) (.t 50)), [0, 1, 2, 3, 4, 5, 6, 7, 8, 9, 10, 11, 12, 13, 14, 15, 16], []⟩]))
 (.keep [0, 1, 2, 3, 8, 9] (.reg [.o 35 (.mov (.t 9)),
 .o 36 (.bin .sub (.t 35) (.c (.int .i64 1))),
 .o 9 (.mov (.t 36))])))))
def c_slices_insertionSortCmpFunc_api_File_l1 : ACode :=
 .keep [0, 1, 2, 3, 8] (.seq (.seq (.reg [.o 12 (.mov (.t 8)),
 .o 13 (.mov (.t 2)),
 .o 14 (.bin .lss (.t 12) (.t 13))])
 (.keep [0, 1, 2, 3, 8, 14] (.cond (.t 14)
 (.skip)
 (.exit 0))))
 (.keep [0, 1, 2, 3, 8] (.seq (.block 1 (.seq (.reg [.o 17 (.mov (.t 8)),
 .o 9 (.mov (.t 17))])
 (.keep [0, 1, 2, 3, 8, 9] (.block 2 (.loop c_slices_insertionSortCmpFunc_api_File_l0)))))
 (.keep [0, 1, 2, 3, 8] (.reg [.o 15 (.mov (.t 8)),
 .o 16 (.bin .add (.t 15) (.c (.int .i64 1))),
 .o 8 (.mov (.t 16))])))))
def c_slices_insertionSortCmpFunc_api_File : ACode :=
 .seq (.reg [.o 10 (.mov (.t 1)),
 .o 11 (.bin .add (.t 10) (.c (.int .i64 1))),
 .o 8 (.mov (.t 11))])
 (.keep [0, 1, 2, 3, 8] (.block 0 (.loop c_slices_insertionSortCmpFunc_api_File_l1)))
def a_slices_insertionSortCmpFunc_api_File : AFun := ⟨4, c_slices_insertionSortCmpFunc_api_File, []⟩

/- math/bits.Len32 -/
def c_math_bits_Len32 : ACode :=
 .seq (.reg [.o 2 (.mov (.c (.int .i64 0)))])
 (.keep [0, 2] (.seq (.seq (.reg [.o 3 (.mov (.t 0)),
 .o 4 (.bin .geq (.t 3) (.c (.int .u32 65536)))])
 (.keep [0, 2, 4] (.cond (.t 4)
 (.seq (.reg [.o 5 (.mov (.t 0)),
 .o 6 (.bin .shr (.t 5) (.c (.int .u64 16))),
 .o 0 (.mov (.t 6))])
 (.keep [0] (.reg [.o 2 (.mov (.c (.int .i64 16)))])))
 (.skip))))
 (.keep [0, 2] (.seq (.seq (.reg [.o 7 (.mov (.t 0)),
 .o 8 (.bin .geq (.t 7) (.c (.int .u32 256)))])
 (.keep [0, 2, 8] (.cond (.t 8)
 (.seq (.reg [.o 9 (.mov (.t 0)),
 .o 10 (.bin .shr (.t 9) (.c (.int .u64 8))),
 .o 0 (.mov (.t 10))])
 (.keep [0, 2] (.reg [.o 11 (.mov (.t 2)),
 .o 12 (.bin .add (.t 11) (.c (.int .i64 8))),
 .o 2 (.mov (.t 12))])))
 (.skip))))
 (.keep [0, 2] (.seq (.reg [.o 13 (.mov (.t 2)),
 .o 14 (.mov (.t 0)),
 .o 15 (.conv .u8 (.t 14)),
 .o 16 (.index (.c (.str [0, 1, 2, 2, 3, 3, 3, 3, 4, 4, 4, 4, 4, 4, 4, 4, 5, 5, 5, 5, 5, 5, 5, 5, 5, 5, 5, 5, 5, 5, 5, 5, 6, 6, 6, 6, 6, 6, 6, 6, 6, 6, 6, 6, 6, 6, 6, 6, 6, 6, 6, 6, 6, 6, 6, 6, 6, 6, 6, 6, 6, 6, 6, 6, 7, 7, 7, 7, 7, 7, 7, 7, 7, 7, 7, 7, 7, 7, 7, 7, 7, 7, 7, 7, 7, 7, 7, 7, 7, 7, 7, 7, 7, 7, 7, 7, 7, 7, 7, 7, 7, 7, 7, 7, 7, 7, 7, 7, 7, 7, 7, 7, 7, 7, 7, 7, 7, 7, 7, 7, 7, 7, 7, 7, 7, 7, 7, 7, 8, 8, 8, 8, 8, 8, 8, 8, 8, 8, 8, 8, 8, 8, 8, 8, 8, 8, 8, 8, 8, 8, 8, 8, 8, 8, 8, 8, 8, 8, 8, 8, 8, 8, 8, 8, 8, 8, 8, 8, 8, 8, 8, 8, 8, 8, 8, 8, 8, 8, 8, 8, 8, 8, 8, 8, 8, 8, 8, 8, 8, 8, 8, 8, 8, 8, 8, 8, 8, 8, 8, 8, 8, 8, 8, 8, 8, 8, 8, 8, 8, 8, 8, 8, 8, 8, 8, 8, 8, 8, 8, 8, 8, 8, 8, 8, 8, 8, 8, 8, 8, 8, 8, 8, 8, 8, 8, 8, 8, 8, 8, 8, 8, 8, 8, 8, 8, 8, 8, 8, 8, 8, 8, 8, 8, 8, 8, 8])) (.t 15)),
 .o 17 (.conv .i64 (.t 16)),
 .o 18 (.bin .add (.t 13) (.t 17)),
 .o 2 (.mov (.t 18))])
 (.ret)))))))
def a_math_bits_Len32 : AFun := ⟨1, c_math_bits_Len32, [.tmp 2]⟩

/- math/bits.Len64 -/
def c_math_bits_Len64 : ACode :=
 .seq (.reg [.o 2 (.mov (.c (.int .i64 0)))])
 (.keep [0, 2] (.seq (.seq (.reg [.o 3 (.mov (.t 0)),
 .o 4 (.bin .geq (.t 3) (.c (.int .u64 4294967296)))])
 (.keep [0, 2, 4] (.cond (.t 4)
 (.seq (.reg [.o 5 (.mov (.t 0)),
 .o 6 (.bin .shr (.t 5) (.c (.int .u64 32))),
 .o 0 (.mov (.t 6))])
 (.keep [0] (.reg [.o 2 (.mov (.c (.int .i64 32)))])))
 (.skip))))
 (.keep [0, 2] (.seq (.seq (.reg [.o 7 (.mov (.t 0)),
 .o 8 (.bin .geq (.t 7) (.c (.int .u64 65536)))])
 (.keep [0, 2, 8] (.cond (.t 8)
 (.seq (.reg [.o 9 (.mov (.t 0)),
 .o 10 (.bin .shr (.t 9) (.c (.int .u64 16))),
 .o 0 (.mov (.t 10))])
 (.keep [0, 2] (.reg [.o 11 (.mov (.t 2)),
 .o 12 (.bin .add (.t 11) (.c (.int .i64 16))),
 .o 2 (.mov (.t 12))])))
 (.skip))))
 (.keep [0, 2] (.seq (.seq (.reg [.o 13 (.mov (.t 0)),
 .o 14 (.bin .geq (.t 13) (.c (.int .u64 256)))])
 (.keep [0, 2, 14] (.cond (.t 14)
 (.seq (.reg [.o 15 (.mov (.t 0)),
 .o 16 (.bin .shr (.t 15) (.c (.int .u64 8))),
 .o 0 (.mov (.t 16))])
 (.keep [0, 2] (.reg [.o 17 (.mov (.t 2)),
 .o 18 (.bin .add (.t 17) (.c (.int .i64 8))),
 .o 2 (.mov (.t 18))])))
 (.skip))))
 (.keep [0, 2] (.seq (.reg [.o 19 (.mov (.t 2)),
 .o 20 (.mov (.t 0)),
 .o 21 (.conv .u8 (.t 20)),
 .o 22 (.index (.c (.str [0, 1, 2, 2, 3, 3, 3, 3, 4, 4, 4, 4, 4, 4, 4, 4, 5, 5, 5, 5, 5, 5, 5, 5, 5, 5, 5, 5, 5, 5, 5, 5, 6, 6, 6, 6, 6, 6, 6, 6, 6, 6, 6, 6, 6, 6, 6, 6, 6, 6, 6, 6, 6, 6, 6, 6, 6, 6, 6, 6, 6, 6, 6, 6, 7, 7, 7, 7, 7, 7, 7, 7, 7, 7, 7, 7, 7, 7, 7, 7, 7, 7, 7, 7, 7, 7, 7, 7, 7, 7, 7, 7, 7, 7, 7, 7, 7, 7, 7, 7, 7, 7, 7, 7, 7, 7, 7, 7, 7, 7, 7, 7, 7, 7, 7, 7, 7, 7, 7, 7, 7, 7, 7, 7, 7, 7, 7, 7, 8, 8, 8, 8, 8, 8, 8, 8, 8, 8, 8, 8, 8, 8, 8, 8, 8, 8, 8, 8, 8, 8, 8, 8, 8, 8, 8, 8, 8, 8, 8, 8, 8, 8, 8, 8, 8, 8, 8, 8, 8, 8, 8, 8, 8, 8, 8, 8, 8, 8, 8, 8, 8, 8, 8, 8, 8, 8, 8, 8, 8, 8, 8, 8, 8, 8, 8, 8, 8, 8, 8, 8, 8, 8, 8, 8, 8, 8, 8, 8, 8, 8, 8, 8, 8, 8, 8, 8, 8, 8, 8, 8, 8, 8, 8, 8, 8, 8, 8, 8, 8, 8, 8, 8, 8, 8, 8, 8, 8, 8, 8, 8, 8, 8, 8, 8, 8, 8, 8, 8, 8, 8, 8, 8, 8, 8, 8, 8])) (.t 21)),
 .o 23 (.conv .i64 (.t 22)),
 .o 24 (.bin .add (.t 19) (.t 23)),
 .o 2 (.mov (.t 24))])
 (.ret)))))))))
def a_math_bits_Len64 : AFun := ⟨1, c_math_bits_Len64, [.tmp 2]⟩

/- patois/patoisref.None -/
def c_patoisref_None : ACode :=
 .seq (.reg [.o 0 (.alloc [.int .i64 0, .sl none 1 0 (some 0)])])
 (.keep [0] (.seq (.reg [.o 1 (.build [.int .i64 0, .sl none 1 0 (some 0)] []),
 .n (.store 2 (.t 0) (.t 1))])
 (.ret)))
def a_patoisref_None : AFun := ⟨0, c_patoisref_None, [.cell 0 2 true]⟩

/- patois/patoissee.fault (not covered: op typeAssert) -/
def c_patoissee_fault : ACode :=
 .seq (.reg [.o 4 (.alloc [.int .i64 0, .sl none 1 0 (some 0)])])
 (.keep [0, 1, 4] (.seq (.seq (.reg [.o 7 (.mov (.t 0)),
 .o 8 (.eq false .ifc (.t 7) (.c (.nilI))),
 .o 9 (.mov (.t 8)),
 .g (some 10) 9 false (.mov (.t 1)),
 .g (some 11) 9 false (.bin .eql (.t 10) (.c (.int .i64 0))),
 .o 12 (.pick (.t 9) (.c (.bool true)) (.t 11))])
 (.keep [0, 1, 4, 12] (.cond (.t 12)
 (.seq (.reg [.o 13 (.callF F_patoisref_Bare [(.c (.int .i64 (-1)))]),
 .n (.store 2 (.t 4) (.t 13))])
 (.ret))
 (.skip))))
 (.keep [0, 1, 4] (.seq (.seq (.reg [.o 14 (.mov (.t 0))])
 (.keep [0, 1, 4, 14] (.block 0 (.bad))))
 (.keep [0, 4] (.seq (.reg [.o 34 (.mov (.t 0)),
 .o 35 (.callF F_patoissee_sentinel [(.t 34)]),
 .o 36 (.callF F_patoisref_Bare [(.t 35)]),
 .n (.store 2 (.t 4) (.t 36))])
 (.ret)))))))
def a_patoissee_fault : AFun := ⟨2, c_patoissee_fault, [.cell 4 2 true]⟩

/- patois/patoisref.SameInts -/
def c_patoisref_SameInts_l0 : ACode :=
 .keep [0, 1, 5] (.seq (.seq (.reg [.o 12 (.mov (.t 5)),
 .o 13 (.mov (.t 0)),
 .o 14 (.len false (.t 13)),
 .o 15 (.bin .lss (.t 12) (.t 14))])
 (.keep [0, 1, 5, 15] (.cond (.t 15)
 (.skip)
 (.exit 0))))
 (.keep [0, 1, 5] (.seq (.block 1 (.seq (.dreg [⟨0, .o 18 (.mov (.t 0)), [], []⟩,
 ⟨1, .o 19 (.mov (.t 5)), [], []⟩,
 ⟨2, .o 20 (.indexA 1 (.t 18) (.t 19)), [0, 1], []⟩,
 ⟨3, .o 21 (.load 1 false (.t 20)), [0, 1, 2], []⟩,
 ⟨4, .o 22 (.mov (.t 1)), [], []⟩,
 ⟨5, .o 23 (.mov (.t 5)), [], []⟩,
 ⟨6, .o 24 (.indexA 1 (.t 22) (.t 23)), [4, 5], []⟩,
 ⟨7, .o 25 (.load 1 false (.t 24)), [4, 5, 6], []⟩,
 ⟨8, .o 26 (.bin .eql (.t 21) (.t 25)), [0, 1, 2, 3, 4, 5, 6, 7], []⟩,
 ⟨9, .o 6 (.mov (.t 26)), [0, 1, 2, 3, 4, 5, 6, 7, 8], []⟩])
 (.keep [0, 1, 5, 6] (.seq (.reg [.o 27 (.mov (.t 6)),
 .o 28 (.not (.t 27))])
 (.keep [0, 1, 5, 28] (.cond (.t 28)
 (.seq (.reg [.o 4 (.mov (.c (.bool false)))])
 (.ret))
 (.skip)))))))
 (.keep [0, 1, 5] (.reg [.o 16 (.mov (.t 5)),
 .o 17 (.bin .add (.t 16) (.c (.int .i64 1))),
 .o 5 (.mov (.t 17))])))))
def c_patoisref_SameInts : ACode :=
 .seq (.reg [.o 4 (.mov (.c (.bool false)))])
 (.keep [0, 1] (.seq (.seq (.reg [.o 7 (.mov (.t 0)),
 .o 8 (.len false (.t 7)),
 .o 9 (.mov (.t 1)),
 .o 10 (.len false (.t 9)),
 .o 11 (.bin .neq (.t 8) (.t 10))])
 (.keep [0, 1, 11] (.cond (.t 11)
 (.seq (.reg [.o 4 (.mov (.c (.bool false)))])
 (.ret))
 (.skip))))
 (.keep [0, 1] (.seq (.seq (.reg [.o 5 (.mov (.c (.int .i64 0)))])
 (.keep [0, 1, 5] (.block 0 (.loop c_patoisref_SameInts_l0))))
 (.keep [] (.seq (.reg [.o 4 (.mov (.c (.bool true)))])
 (.ret)))))))
def a_patoisref_SameInts : AFun := ⟨2, c_patoisref_SameInts, [.tmp 4]⟩

/- patois/patoissee.sentinel -/
def c_patoissee_sentinel_l0 : ACode :=
 .keep [0, 3, 4] (.seq (.seq (.reg [.o 6 (.mov (.t 4)),
 .o 7 (.mov (.t 3)),
 .o 8 (.len false (.t 7)),
 .o 9 (.bin .lss (.t 6) (.t 8))])
 (.keep [0, 3, 4, 9] (.cond (.t 9)
 (.skip)
 (.exit 0))))
 (.keep [0, 3, 4] (.seq (.block 1 (.seq (.reg [.o 12 (.mov (.t 0)),
 .o 13 (.mov (.t 3)),
 .o 14 (.mov (.t 4)),
 .o 15 (.indexA 1 (.t 13) (.t 14)),
 .o 16 (.load 1 false (.t 15)),
 .o 17 (.callF F_patoissee_Alike [(.t 12), (.t 16)])])
 (.keep [0, 3, 4, 17] (.cond (.t 17)
 (.seq (.reg [.o 18 (.mov (.t 4)),
 .o 19 (.bin .add (.c (.int .i64 101)) (.t 18)),
 .o 2 (.mov (.t 19))])
 (.ret))
 (.skip)))))
 (.keep [0, 3, 4] (.reg [.o 10 (.mov (.t 4)),
 .o 11 (.bin .add (.t 10) (.c (.int .i64 1))),
 .o 4 (.mov (.t 11))])))))
def c_patoissee_sentinel : ACode :=
 .seq (.reg [.o 2 (.mov (.c (.int .i64 0)))])
 (.keep [0] (.seq (.reg [.o 5 (.callF F_patoissee_sentinels []),
 .o 3 (.mov (.t 5))])
 (.keep [0, 3] (.seq (.seq (.reg [.o 4 (.mov (.c (.int .i64 0)))])
 (.keep [0, 3, 4] (.block 0 (.loop c_patoissee_sentinel_l0))))
 (.keep [] (.seq (.reg [.o 2 (.mov (.c (.int .i64 (-1))))])
 (.ret)))))))
def a_patoissee_sentinel : AFun := ⟨1, c_patoissee_sentinel, [.tmp 2]⟩

/- patois/patoissee.Alike -/
def c_patoissee_Alike : ACode :=
 .seq (.reg [.o 4 (.mov (.c (.bool false)))])
 (.keep [0, 1] (.seq (.seq (.reg [.o 5 (.mov (.t 0)),
 .o 6 (.eq false .ifc (.t 5) (.c (.nilI))),
 .o 7 (.mov (.t 6)),
 .g (some 8) 7 false (.mov (.t 1)),
 .g (some 9) 7 false (.eq false .ifc (.t 8) (.c (.nilI))),
 .o 10 (.pick (.t 7) (.c (.bool true)) (.t 9))])
 (.keep [0, 1, 10] (.cond (.t 10)
 (.seq (.reg [.o 11 (.mov (.t 0)),
 .o 12 (.eq false .ifc (.t 11) (.c (.nilI))),
 .o 13 (.mov (.t 12)),
 .g (some 14) 13 true (.mov (.t 1)),
 .g (some 15) 13 true (.eq false .ifc (.t 14) (.c (.nilI))),
 .o 16 (.pick (.t 13) (.t 15) (.c (.bool false))),
 .o 4 (.mov (.t 16))])
 (.ret))
 (.skip))))
 (.keep [0, 1] (.seq (.reg [.o 17 (.mov (.t 0)),
 .o 18 (.mov (.t 1)),
 .o 19 (.eq false .ifc (.t 17) (.t 18)),
 .o 4 (.mov (.t 19))])
 (.ret)))))
def a_patoissee_Alike : AFun := ⟨2, c_patoissee_Alike, [.tmp 4]⟩

end Go.Proofs.YtlecbjcloleiiaaDoor.Ram

/-! How the abstract machine's values and heap stand to the model's: 'VR', 'HR', and what a step keeps: 'Ext'. -/
namespace Go.Proofs.YtlecbjcloleiiaaDoor.Ram
open Go Go.RowKit

structure Loc where
  b : Nat
  o : Nat
  n : Nat

abbrev LMap := Nat → Option Loc

mutual
def VR (m : LMap) : AV → Value → Prop
  | .int k n, v => v = .int k n
  | .bool b, v => v = .bool b
  | .str s, v => v = .string ⟨⟨s⟩⟩
  | .ptr none, v => v = .pointer none
  | .ptr (some (i, off)), v => ∃ loc, m i = some loc ∧ v = .pointer (some ⟨loc.b, loc.o + off, none⟩)
  | .sl none _ len _, v => v = .slice none 0 0 ∧ len = 0
  | .sl (some (i, off)) sz len cap, v => ∃ loc c ad, m i = some loc ∧ v = .slice (some ad) len c ∧ (0 < c → ad = ⟨loc.b, loc.o + off, none⟩) ∧ len ≤ c ∧ off + c * sz ≤ loc.n ∧ c ≤ maxLen ∧ ∀ d, cap = some d → c = d
  | .map none, v => v = .map none
  | .map (some i), v => ∃ loc, m i = some loc ∧ v = .map (some loc.b)
  | .fn f caps, v => ∃ cs : Array Value, v = .func (.func f) #[] cs ∧ VRs m caps cs.toList
  | .nilFn, v => v = .nilFunc
  | .nilI, v => v = .nilIface
  | .und, v => v = undef
  | .ifc t x, v => ∃ y, v = .iface t y ∧ VR m x y
  | .agg l, v => ∃ cs : Array Value, v = .agg cs ∧ VRs m l cs.toList ∧ l.all oneCell = true
  | .tup l, v => ∃ cs : Array Value, v = .tuple cs ∧ VRs m l cs.toList
def VRs (m : LMap) : List AV → List Value → Prop
  | [], vs => vs = []
  | x :: l, vs => ∃ v r, vs = v :: r ∧ VR m x v ∧ VRs m l r
end

def LSub (m m' : LMap) : Prop := ∀ i loc, m i = some loc → m' i = some loc

mutual
theorem VR.mono {m m' : LMap} (h : LSub m m') : ∀ {x : AV} {v : Value}, VR m x v → VR m' x v
  | .int _ _, _, hv => hv
  | .bool _, _, hv => hv
  | .str _, _, hv => hv
  | .ptr none, _, hv => hv
  | .ptr (some (_, _)), _, hv => by
    obtain ⟨loc, h1, h2⟩ := (by simpa only [VR] using hv)
    simp only [VR]; exact ⟨loc, h _ _ h1, h2⟩
  | .sl none _ _ _, _, hv => hv
  | .sl (some (_, _)) _ _ _, _, hv => by
    obtain ⟨loc, c, ad, h1, h2⟩ := (by simpa only [VR] using hv)
    simp only [VR]; exact ⟨loc, c, ad, h _ _ h1, h2⟩
  | .map none, _, hv => hv
  | .map (some _), _, hv => by
    obtain ⟨loc, h1, h2⟩ := (by simpa only [VR] using hv)
    simp only [VR]; exact ⟨loc, h _ _ h1, h2⟩
  | .fn _ _, _, hv => by
    obtain ⟨cs, h1, h2⟩ := (by simpa only [VR] using hv)
    simp only [VR]; exact ⟨cs, h1, VRs.mono h h2⟩
  | .nilFn, _, hv => hv
  | .nilI, _, hv => hv
  | .und, _, hv => hv
  | .ifc _ _, _, hv => by
    obtain ⟨y, h1, h2⟩ := (by simpa only [VR] using hv)
    simp only [VR]; exact ⟨y, h1, VR.mono h h2⟩
  | .agg _, _, hv => by
    obtain ⟨cs, h1, h2, h3⟩ := (by simpa only [VR] using hv)
    simp only [VR]; exact ⟨cs, h1, VRs.mono h h2, h3⟩
  | .tup _, _, hv => by
    obtain ⟨cs, h1, h2⟩ := (by simpa only [VR] using hv)
    simp only [VR]; exact ⟨cs, h1, VRs.mono h h2⟩
theorem VRs.mono {m m' : LMap} (h : LSub m m') : ∀ {l : List AV} {vs : List Value}, VRs m l vs → VRs m' l vs
  | [], _, hv => hv
  | _ :: _, _, hv => by
    obtain ⟨v, r, h1, h2, h3⟩ := (by simpa only [VRs] using hv)
    simp only [VRs]; exact ⟨v, r, h1, VR.mono h h2, VRs.mono h h3⟩
end

theorem VRs.length {m : LMap} : ∀ {l : List AV} {vs : List Value}, VRs m l vs → vs.length = l.length
  | [], _, h => by simp only [VRs] at h; subst h; rfl
  | _ :: l, _, h => by
    simp only [VRs] at h
    obtain ⟨v, r, rfl, _, h3⟩ := h
    simp [VRs.length h3]
theorem VRs.get {m : LMap} : ∀ {l : List AV} {vs : List Value} {j : Nat} {x : AV}, VRs m l vs → l[j]? = some x → ∃ v, vs[j]? = some v ∧ VR m x v
  | [], _, _, _, _, hx => by simp at hx
  | y :: l, _, 0, x, h, hx => by
    simp only [VRs] at h
    obtain ⟨v, r, rfl, h2, h3⟩ := h
    simp at hx; subst hx
    exact ⟨v, rfl, h2⟩
  | y :: l, _, j + 1, x, h, hx => by
    simp only [VRs] at h
    obtain ⟨v, r, rfl, h2, h3⟩ := h
    simp at hx
    obtain ⟨v', hv, hr⟩ := VRs.get h3 hx
    exact ⟨v', by simpa using hv, hr⟩
theorem VRs.of_get {m : LMap} : ∀ {l : List AV} {vs : List Value}, vs.length = l.length → (∀ (j : Nat) (x : AV), l[j]? = some x → ∃ v, vs[j]? = some v ∧ VR m x v) → VRs m l vs
  | [], vs, hl, _ => by simp only [VRs]; simpa using hl
  | x :: l, vs, hl, h => by
    cases vs with
    | nil => simp at hl
    | cons v r =>
      simp only [VRs]
      obtain ⟨v', hv', hr⟩ := h 0 x rfl
      simp at hv'; subst hv'
      exact ⟨v, r, rfl, hr, VRs.of_get (by simpa using hl) fun j y hy => by
        obtain ⟨u, hu, hur⟩ := h (j + 1) y (by simpa using hy)
        exact ⟨u, by simpa using hu, hur⟩⟩
theorem VRs.append {m : LMap} {l l' : List AV} {vs vs' : List Value} (h : VRs m l vs) (h' : VRs m l' vs') : VRs m (l ++ l') (vs ++ vs') := by
  have e := h.length
  refine VRs.of_get (by simp [h.length, h'.length]) fun j x hx => ?_
  by_cases hj : j < l.length
  · rw [List.getElem?_append_left hj] at hx
    obtain ⟨v, hv, hr⟩ := h.get hx
    exact ⟨v, by rw [List.getElem?_append_left (by omega)]; exact hv, hr⟩
  · rw [List.getElem?_append_right (by omega)] at hx
    obtain ⟨v, hv, hr⟩ := h'.get hx
    exact ⟨v, by rw [List.getElem?_append_right (by omega), e]; exact hv, hr⟩
theorem VRs.drop {m : LMap} {l : List AV} {vs : List Value} (h : VRs m l vs) (k : Nat) : VRs m (l.drop k) (vs.drop k) := by
  refine VRs.of_get (by simp [h.length]) fun j x hx => ?_
  rw [List.getElem?_drop] at hx
  obtain ⟨v, hv, hr⟩ := h.get hx
  exact ⟨v, by rw [List.getElem?_drop]; exact hv, hr⟩
theorem VRs.take {m : LMap} {l : List AV} {vs : List Value} (h : VRs m l vs) (k : Nat) : VRs m (l.take k) (vs.take k) := by
  refine VRs.of_get (by simp [h.length]) fun j x hx => ?_
  rw [List.getElem?_take] at hx ⊢
  split at hx
  · rename_i hj; rw [if_pos hj]; exact h.get hx
  · cases hx

/-- A value of one cell. -/
theorem VR.one {m : LMap} {x : AV} {v : Value} (h : VR m x v) (hx : oneCell x = true) : v.oneCell' = true := by
  cases x with
  | agg l => cases hx
  | tup l => cases hx
  | und => cases hx
  | ptr a => cases a with | none => simp only [VR] at h; subst h; rfl | some p => obtain ⟨i, off⟩ := p; simp only [VR] at h; obtain ⟨_, _, rfl⟩ := h; rfl
  | sl a sz len cap => cases a with | none => simp only [VR] at h; obtain ⟨rfl, _⟩ := h; rfl | some p => obtain ⟨i, off⟩ := p; simp only [VR] at h; obtain ⟨_, _, _, _, rfl, _⟩ := h; rfl
  | map a => cases a with | none => simp only [VR] at h; subst h; rfl | some p => simp only [VR] at h; obtain ⟨_, _, rfl⟩ := h; rfl
  | fn f caps => simp only [VR] at h; obtain ⟨_, rfl, _⟩ := h; rfl
  | ifc t y => simp only [VR] at h; obtain ⟨_, rfl, _⟩ := h; rfl
  | int k n => simp only [VR] at h; subst h; rfl
  | bool b => simp only [VR] at h; subst h; rfl
  | str s => simp only [VR] at h; subst h; rfl
  | nilFn => simp only [VR] at h; subst h; rfl
  | nilI => simp only [VR] at h; subst h; rfl
theorem cells_one {v : Value} (h : v.oneCell' = true) : v.cells = #[v] := by
  cases v <;> first | rfl | (simp [Value.oneCell'] at h)
/-- The cells of a value. -/
theorem VR.cells {m : LMap} {x : AV} {v : Value} (h : VR m x v) (hx : (cellsOf x).all oneCell = true) : VRs m (cellsOf x) v.cells.toList ∧ ∀ u ∈ v.cells.toList, u.oneCell' = true := by
  by_cases ha : ∃ l, x = .agg l
  · obtain ⟨l, rfl⟩ := ha
    simp only [VR] at h
    obtain ⟨cs, rfl, h2, h3⟩ := h
    refine ⟨h2, fun u hu => ?_⟩
    obtain ⟨j, hj⟩ := List.mem_iff_getElem?.1 hu
    have hjl : j < l.length := by have := (List.getElem?_eq_some_iff.1 hj).1; rw [← h2.length]; exact this
    obtain ⟨v, hv, hr⟩ := h2.get (List.getElem?_eq_getElem hjl)
    have : v = u := by have e := hv.symm.trans hj; exact Option.some.inj e
    subst this
    exact hr.one (List.all_eq_true.1 h3 _ (List.getElem_mem hjl))
  · have hc : cellsOf x = [x] := by cases x <;> first | rfl | exact absurd ⟨_, rfl⟩ ha
    rw [hc] at hx ⊢
    have hx1 : oneCell x = true := by simpa using hx
    have h1 := h.one hx1
    rw [cells_one h1]
    refine ⟨by simp only [VRs]; exact ⟨v, [], rfl, h, rfl⟩, fun u hu => ?_⟩
    simp at hu; subst hu; exact h1

/-! ### objects, heaps -/
inductive MapR (m : LMap) : List (List UInt8 × AV) → List MapEntry → Prop where
  | nil : MapR m [] []
  | cons {s : List UInt8} {x : AV} {e : MapEntry} {l : List (List UInt8 × AV)} {es : List MapEntry} (hk : e.key = .string ⟨⟨s⟩⟩) (hv : VR m x e.val) (h : MapR m l es) : MapR m ((s, x) :: l) (e :: es)
theorem MapR.mono {m m' : LMap} (h : LSub m m') {l : List (List UInt8 × AV)} {es : List MapEntry} (hr : MapR m l es) : MapR m' l es := by
  induction hr with
  | nil => exact .nil
  | cons hk hv _ ih => exact .cons hk (hv.mono h) ih

def CellsR (m : LMap) (l : List AV) (c : Array Value) (o : Nat) : Prop := ∀ j x, l[j]? = some x → ∃ v, c[o + j]? = some v ∧ VR m x v ∧ oneCell x = true
def ObjR (m : LMap) (w : World) (loc : Loc) : AObj → Prop
  | .cells l ro => ∃ c e f, w.heap[loc.b]? = some (.cells c e f) ∧ (ro = false → f = (0, 0)) ∧ loc.o + loc.n = c.size ∧ l.length ≤ loc.n ∧ CellsR m l c loc.o
  | .map l _ => ∃ es ck, w.heap[loc.b]? = some (.map es ck) ∧ MapR m l es.toList
def AObj.ro : AObj → Bool
  | .cells _ r => r
  | .map _ r => r

theorem CellsR.mono {m m' : LMap} (h : LSub m m') {l : List AV} {c : Array Value} {o : Nat} (hr : CellsR m l c o) : CellsR m' l c o := fun j x hx => by
  obtain ⟨v, hv, hvr, h1⟩ := hr j x hx
  exact ⟨v, hv, hvr.mono h, h1⟩
theorem ObjR.mono {m m' : LMap} (h : LSub m m') {w w' : World} {loc : Loc} (hb : w'.heap[loc.b]? = w.heap[loc.b]?) {o : AObj} (hr : ObjR m w loc o) : ObjR m' w' loc o := by
  cases o with
  | cells l r => obtain ⟨c, e, f, h1, h2, h3, h4, h5⟩ := hr; exact ⟨c, e, f, hb.trans h1, h2, h3, h4, h5.mono h⟩
  | map l r => obtain ⟨es, ck, h1, h2⟩ := hr; exact ⟨es, ck, hb.trans h1, h2.mono h⟩

structure HR (m : LMap) (H : AH) (w : World) : Prop where
  wf : ∀ i, H.next ≤ i → H.get i = none
  dom : ∀ i loc, m i = some loc → i < H.next ∧ loc.b < w.heap.size
  ok : ∀ i loc o, m i = some loc → H.get i = some o → ObjR m w loc o
  sep : ∀ i j li lj oi oj, m i = some li → m j = some lj → H.get i = some oi → H.get j = some oj → i ≠ j → (shar i oi.ro && shar j oj.ro) = false → li.b ≠ lj.b
  tipo : ∀ j, H.tip j = true → j < H.next ∧ 100 ≤ j ∧ ∃ l, H.get j = some (.cells l true)
  tip : ∀ j lj l, H.tip j = true → m j = some lj → H.get j = some (.cells l true) → (∃ c e, w.heap[lj.b]? = some (.cells c e (0, 0))) ∧
    ∀ i li oi, m i = some li → H.get i = some oi → li.b = lj.b → i ≠ j → H.tip i = false ∧ ∀ l' r, oi = .cells l' r → li.o + l'.length ≤ lj.o + l.length

/-- Is block b one that the run may write? -/
def Mine (m : LMap) (H : AH) (b : Nat) : Prop := ∃ i loc o, m i = some loc ∧ H.get i = some o ∧ (o.ro = false ∨ H.tip i = true) ∧ loc.b = b

structure Ext (m : LMap) (H : AH) (w : World) (m' : LMap) (H' : AH) (w' : World) : Prop where
  next : H.next ≤ H'.next
  sub : LSub m m'
  new : ∀ i loc, m' i = some loc → m i = none → H.next ≤ i ∧ (w.heap.size ≤ loc.b ∨ Mine m H loc.b)
  unm : ∀ i, i < H.next → m i = none → H'.get i = H.get i
  ro : ∀ i, i < H.next → ∀ o', H'.get i = some o' → ∃ o, H.get i = some o ∧ o.ro = o'.ro
  rok : ∀ i o, H.get i = some o → o.ro = true → H'.get i = some o
  tip : ∀ i, i < H.next → H'.tip i = true → H.tip i = true
  frame : ∀ b, b < w.heap.size → ¬ Mine m H b → w'.heap[b]? = w.heap[b]?
  size : w.heap.size ≤ w'.heap.size
  os : w'.os = w.os
  tape : w'.tape = w.tape
  output : w'.output = w.output

theorem Ext.refl (m : LMap) (H : AH) (w : World) : Ext m H w m H w where
  next := Nat.le_refl _
  sub := fun _ _ h => h
  new := fun i loc h h' => by rw [h'] at h; cases h
  unm := fun _ _ _ => rfl
  ro := fun i _ o' h => ⟨o', h, rfl⟩
  rok := fun _ _ h _ => h
  tip := fun _ _ h => h
  frame := fun _ _ _ => rfl
  size := Nat.le_refl _
  os := rfl
  tape := rfl
  output := rfl
/-- What is the run's own later was its own ahead, or is new. -/
theorem Ext.mine {m m' : LMap} {H H' : AH} {w w' : World} (h : Ext m H w m' H' w') {b : Nat} (hb : b < w.heap.size) (hm : Mine m' H' b) (hd : ∀ i loc, m i = some loc → i < H.next) : Mine m H b := by
  obtain ⟨i, loc, o, h1, h2, h3, h4⟩ := hm
  cases hi : m i with
  | none =>
    obtain ⟨_, h5 | h5⟩ := h.new i loc h1 hi
    · omega
    · rw [h4] at h5; exact h5
  | some loc0 =>
    have := h.sub i loc0 hi
    rw [this] at h1
    obtain rfl := Option.some.inj h1
    obtain ⟨o0, h5, h6⟩ := h.ro i (hd i _ hi) o h2
    exact ⟨i, loc0, o0, hi, h5, h3.imp (fun h3 => h6.trans h3) (fun h3 => h.tip i (hd i _ hi) h3), h4⟩
theorem Ext.trans {m m1 m2 : LMap} {H H1 H2 : AH} {w w1 w2 : World} (h : Ext m H w m1 H1 w1) (k : Ext m1 H1 w1 m2 H2 w2) (hd : ∀ i loc, m i = some loc → i < H.next) : Ext m H w m2 H2 w2 where
  next := Nat.le_trans h.next k.next
  sub := fun i loc hi => k.sub i loc (h.sub i loc hi)
  new := fun i loc hi hn => by
    cases h1 : m1 i with
    | none =>
      obtain ⟨ha, hb⟩ := k.new i loc hi h1
      refine ⟨Nat.le_trans h.next ha, ?_⟩
      rcases hb with hb | hb
      · exact .inl (Nat.le_trans h.size hb)
      · by_cases hlt : loc.b < w.heap.size
        · exact .inr (h.mine hlt hb hd)
        · exact .inl (by omega)
    | some loc1 =>
      have := k.sub i loc1 h1
      rw [this] at hi
      obtain rfl := Option.some.inj hi
      exact h.new i loc1 h1 hn
  unm := fun i hi hn => by
    have h1 : m1 i = none := by
      cases h1 : m1 i with
      | none => rfl
      | some loc => have := (h.new i loc h1 hn).1; omega
    rw [k.unm i (Nat.lt_of_lt_of_le hi h.next) h1, h.unm i hi hn]
  ro := fun i hi o2 h2 => by
    obtain ⟨o1, h1, e1⟩ := k.ro i (Nat.lt_of_lt_of_le hi h.next) o2 h2
    obtain ⟨o0, h0, e0⟩ := h.ro i hi o1 h1
    exact ⟨o0, h0, e0.trans e1⟩
  rok := fun i o ho hr => k.rok i o (h.rok i o ho hr) hr
  tip := fun i hi ht => h.tip i hi (k.tip i (Nat.lt_of_lt_of_le hi h.next) ht)
  frame := fun b hb hm => by
    rw [k.frame b (Nat.lt_of_lt_of_le hb h.size) (fun hm1 => hm (h.mine hb hm1 hd)), h.frame b hb hm]
  size := Nat.le_trans h.size k.size
  os := k.os.trans h.os
  tape := k.tape.trans h.tape
  output := k.output.trans h.output
/-- A draw turns nothing. -/
theorem Ext.drew {m m' : LMap} {H H' : AH} {w w' : World} (h : Ext m H w m' H' w') (n : Nat) : Ext m H w m' H' { w' with drawn := n } :=
  { h with frame := h.frame, size := h.size, os := h.os, tape := h.tape, output := h.output }
theorem HR.drew {m : LMap} {H : AH} {w : World} (h : HR m H w) (n : Nat) : HR m H { w with drawn := n } where
  wf := h.wf
  dom := h.dom
  ok := fun i loc o h1 h2 => (h.ok i loc o h1 h2).mono (fun _ _ h => h) rfl
  sep := h.sep
  tipo := h.tipo
  tip := h.tip

/-- A new block for a new number. -/
def LMap.put (m : LMap) (i : Nat) (loc : Loc) : LMap := fun j => if j = i then some loc else m j
theorem LMap.put_sub {m : LMap} {i : Nat} {loc : Loc} (h : m i = none) : LSub m (m.put i loc) := fun j l hj => by
  unfold LMap.put
  split
  · rename_i e; subst e; rw [h] at hj; cases hj
  · exact hj
theorem LMap.put_self (m : LMap) (i : Nat) (loc : Loc) : m.put i loc i = some loc := by simp [LMap.put]

theorem AH.get_set (H : AH) (i : Nat) (o : AObj) (j : Nat) : (H.set i o).get j = if j = i then some o else H.get j := rfl
theorem AH.get_kill (H : AH) (i j : Nat) : (H.kill i).get j = if j = i then none else H.get j := rfl
theorem AH.get_push (H : AH) (o : AObj) (j : Nat) : (H.push o).get j = if j = H.next then some o else H.get j := rfl

theorem HR.tipo_push {m : LMap} {H : AH} {w : World} (h : HR m H w) (o : AObj) : ∀ j, (H.push o).tip j = true → j < (H.push o).next ∧ 100 ≤ j ∧ ∃ l, (H.push o).get j = some (.cells l true) := fun j ht => by
  obtain ⟨h1, h2, l, h3⟩ := h.tipo j ht
  exact ⟨by simp only [AH.push]; omega, h2, l, by rw [AH.get_push, if_neg (by omega)]; exact h3⟩
theorem HR.fresh {m : LMap} {H : AH} {w : World} (h : HR m H w) : m H.next = none := by
  cases hm : m H.next with
  | none => rfl
  | some loc => have := (h.dom _ _ hm).1; omega

/-- A new object, in a new block. -/
theorem HR.push {m : LMap} {H : AH} {w : World} (h : HR m H w) (bo : Obj) (o : AObj) (n : Nat) (hr : ∀ m', LSub m m' → ObjR m' (w.alloc bo) ⟨w.heap.size, 0, n⟩ o) :
    HR (m.put H.next ⟨w.heap.size, 0, n⟩) (H.push o) (w.alloc bo) := by
  have hsub := LMap.put_sub (loc := ⟨w.heap.size, 0, n⟩) h.fresh
  have hsz : (w.alloc bo).heap.size = w.heap.size + 1 := by simp
  refine ⟨fun i hi => ?_, fun i loc hi => ?_, fun i loc o' hi ho => ?_, fun i j li lj oi oj hi hj hoi hoj hne hsh => ?_, h.tipo_push o, fun j lj l ht hj hl => ?_⟩
  rotate_left 4
  · obtain ⟨hjn, _, _⟩ := h.tipo j ht
    rw [AH.get_push, if_neg (by omega)] at hl
    unfold LMap.put at hj
    rw [if_neg (by omega)] at hj
    obtain ⟨⟨c, e, hc⟩, ho⟩ := h.tip j lj l ht hj hl
    refine ⟨⟨c, e, (Below.heap_alloc _ _ _ (h.dom j lj hj).2).trans hc⟩, fun i li oi hi hoi hb hne => ?_⟩
    unfold LMap.put at hi
    rw [AH.get_push] at hoi
    split at hi
    · rename_i e; subst e; obtain rfl := Option.some.inj hi; have := (h.dom j lj hj).2; simp only at hb; omega
    · rename_i e; rw [if_neg e] at hoi; exact ho i li oi hi hoi hb hne
  · rw [AH.get_push, if_neg (by simp only [AH.push] at hi; omega)]
    exact h.wf i (by simp only [AH.push] at hi; omega)
  · unfold LMap.put at hi
    split at hi
    · rename_i e; subst e; obtain rfl := Option.some.inj hi; exact ⟨Nat.lt_succ_self _, by rw [hsz]; exact Nat.lt_succ_self _⟩
    · have := h.dom i loc hi; simp only [AH.push]; exact ⟨by omega, by omega⟩
  · unfold LMap.put at hi
    rw [AH.get_push] at ho
    split at hi
    · rename_i e; subst e
      rw [if_pos rfl] at ho
      obtain rfl := Option.some.inj hi
      obtain rfl := Option.some.inj ho
      exact hr _ hsub
    · rename_i e
      rw [if_neg e] at ho
      exact (h.ok i loc o' hi ho).mono hsub (Below.heap_alloc _ _ _ (h.dom i loc hi).2)
  · unfold LMap.put at hi hj
    rw [AH.get_push] at hoi hoj
    split at hi <;> split at hj
    · rename_i e e'; exact absurd (e.trans e'.symm) hne
    · obtain rfl := Option.some.inj hi; have := (h.dom j lj hj).2; simp only; omega
    · obtain rfl := Option.some.inj hj; have := (h.dom i li hi).2; simp only; omega
    · rename_i e e'
      rw [if_neg e] at hoi
      rw [if_neg e'] at hoj
      exact h.sep i j li lj oi oj hi hj hoi hoj hne hsh
theorem Ext.push {m : LMap} {H : AH} {w : World} (h : HR m H w) (bo : Obj) (o : AObj) (n : Nat) : Ext m H w (m.put H.next ⟨w.heap.size, 0, n⟩) (H.push o) (w.alloc bo) where
  next := by simp [AH.push]
  sub := LMap.put_sub h.fresh
  new := fun i loc hi hn => by
    unfold LMap.put at hi
    split at hi
    · rename_i e; subst e; obtain rfl := Option.some.inj hi; exact ⟨Nat.le_refl _, .inl (Nat.le_refl _)⟩
    · rw [hn] at hi; cases hi
  unm := fun i hi _ => by rw [AH.get_push, if_neg (by omega)]
  ro := fun i hi o' ho => by rw [AH.get_push, if_neg (by omega)] at ho; exact ⟨o', ho, rfl⟩
  rok := fun i o' ho _ => by
    rw [AH.get_push]
    split
    · rename_i e; subst e; rw [h.wf _ (Nat.le_refl _)] at ho; cases ho
    · exact ho
  tip := fun _ _ h => h
  frame := fun b hb _ => Below.heap_alloc _ _ _ hb
  size := by simp
  os := rfl
  tape := rfl
  output := rfl
/-- An object that is pushed by the abstract run alone (its block is to come). -/
theorem HR.push_unmapped {m : LMap} {H : AH} {w : World} (h : HR m H w) (o : AObj) : HR m (H.push o) w := by
  refine ⟨fun i hi => ?_, fun i loc hi => ?_, fun i loc o' hi ho => ?_, fun i j li lj oi oj hi hj hoi hoj hne hsh => ?_, h.tipo_push o, fun j lj l ht hj hl => ?_⟩
  rotate_left 4
  · rw [AH.get_push, if_neg (by have := (h.dom j lj hj).1; omega)] at hl
    obtain ⟨h1, h2⟩ := h.tip j lj l ht hj hl
    exact ⟨h1, fun i li oi hi hoi hb hne => by
      rw [AH.get_push, if_neg (by have := (h.dom i li hi).1; omega)] at hoi
      exact h2 i li oi hi hoi hb hne⟩
  · rw [AH.get_push, if_neg (by simp only [AH.push] at hi; omega)]
    exact h.wf i (by simp only [AH.push] at hi; omega)
  · have := h.dom i loc hi; simp only [AH.push]; exact ⟨by omega, this.2⟩
  · rw [AH.get_push, if_neg (by have := (h.dom i loc hi).1; omega)] at ho; exact h.ok i loc o' hi ho
  · rw [AH.get_push, if_neg (by have := (h.dom i li hi).1; omega)] at hoi
    rw [AH.get_push, if_neg (by have := (h.dom j lj hj).1; omega)] at hoj
    exact h.sep i j li lj oi oj hi hj hoi hoj hne hsh
end Go.Proofs.YtlecbjcloleiiaaDoor.Ram

/-! The operations that ask nothing of memory. -/
namespace Go.Proofs.YtlecbjcloleiiaaDoor.Ram
open Go Go.RowKit

/-- An object's content is written anew. -/
structure OnlyBlock (w w' : World) (b : Nat) : Prop where
  other : ∀ k, k ≠ b → w'.heap[k]? = w.heap[k]?
  size : w'.heap.size = w.heap.size
  os : w'.os = w.os
  tape : w'.tape = w.tape
  output : w'.output = w.output
theorem HR.upd {m : LMap} {H : AH} {w w' : World} (h : HR m H w) {i : Nat} {loc : Loc} {o : AObj} (hm : m i = some loc) (ho : H.get i = some o) (o' : AObj) (hb : OnlyBlock w w' loc.b) (hr : ObjR m w' loc o') (hro : o.ro = false) (hro' : o'.ro = false) : HR m (H.set i o') w' := by
  have htip : ∀ j, H.tip j = true → j ≠ i := fun j ht e => by
    subst e
    obtain ⟨_, _, l, hl⟩ := h.tipo _ ht
    rw [ho] at hl; obtain rfl := Option.some.inj hl; cases hro
  refine ⟨fun j hj => ?_, fun j lj hj => ?_, fun j lj oj hj hoj => ?_, fun j k lj lk oj ok hj hk hoj hok hne hsh => ?_, fun j ht => ?_, fun j lj l ht hj hl => ?_⟩
  rotate_left 4
  · obtain ⟨h1, h2, l, h3⟩ := h.tipo j ht
    exact ⟨h1, h2, l, by rw [AH.get_set, if_neg (htip j ht)]; exact h3⟩
  · have hji := htip j ht
    rw [AH.get_set, if_neg hji] at hl
    obtain ⟨⟨c, e, hc⟩, h2⟩ := h.tip j lj l ht hj hl
    have hbne : lj.b ≠ loc.b := h.sep j i lj loc _ o hj hm hl ho hji (by simp [shar, hro])
    refine ⟨⟨c, e, (hb.other _ hbne).trans hc⟩, fun q lq oq hq hoq hqb hne => ?_⟩
    by_cases hqi : q = i
    · subst hqi; rw [hm] at hq; obtain rfl := Option.some.inj hq; exact absurd hqb.symm hbne
    · rw [AH.get_set, if_neg hqi] at hoq
      exact h2 q lq oq hq hoq hqb hne
  · rw [AH.get_set, if_neg (by intro e; subst e; have := (h.dom _ _ hm).1; simp only [AH.set] at hj; omega)]
    exact h.wf j hj
  · have := h.dom j lj hj; exact ⟨this.1, by rw [hb.size]; exact this.2⟩
  · rw [AH.get_set] at hoj
    split at hoj
    · rename_i e; subst e
      rw [hm] at hj
      obtain rfl := Option.some.inj hj
      obtain rfl := Option.some.inj hoj
      exact hr
    · rename_i e
      exact (h.ok j lj oj hj hoj).mono (fun _ _ h => h) (hb.other _ (h.sep j i lj loc oj o hj hm hoj ho e (by simp [shar, hro])))
  · rw [AH.get_set] at hoj hok
    have key : ∀ q oq, (if q = i then some o' else H.get q) = some oq → ∃ oq', H.get q = some oq' ∧ oq'.ro = oq.ro := fun q oq hq => by
      split at hq
      · rename_i e; subst e; exact ⟨o, ho, by obtain rfl := Option.some.inj hq; rw [hro, hro']⟩
      · exact ⟨oq, hq, rfl⟩
    obtain ⟨oj', hoj', e1⟩ := key j oj hoj
    obtain ⟨ok', hok', e2⟩ := key k ok hok
    exact h.sep j k lj lk oj' ok' hj hk hoj' hok' hne (by rw [e1, e2]; exact hsh)
theorem Ext.upd {m : LMap} {H : AH} {w w' : World} {i : Nat} {loc : Loc} {o o' : AObj} (hm : m i = some loc) (ho : H.get i = some o) (hro : o.ro = false) (hro' : o'.ro = false) (hb : OnlyBlock w w' loc.b) : Ext m H w m (H.set i o') w' where
  next := Nat.le_refl _
  sub := fun _ _ h => h
  new := fun j lj h1 h2 => by rw [h2] at h1; cases h1
  unm := fun j _ hn => by rw [AH.get_set, if_neg (by intro e; subst e; rw [hn] at hm; cases hm)]
  ro := fun j _ oj hj => by
    rw [AH.get_set] at hj
    split at hj
    · rename_i e; subst e; obtain rfl := Option.some.inj hj; exact ⟨o, ho, hro.trans hro'.symm⟩
    · exact ⟨oj, hj, rfl⟩
  rok := fun j oj hj hr => by
    rw [AH.get_set, if_neg (by intro e; subst e; rw [ho] at hj; obtain rfl := Option.some.inj hj; rw [hro] at hr; cases hr)]
    exact hj
  tip := fun _ _ h => h
  frame := fun b _ hm' => hb.other b (fun e => hm' ⟨i, loc, o, hm, ho, .inl hro, e.symm⟩)
  size := Nat.le_of_eq hb.size.symm
  os := hb.os
  tape := hb.tape
  output := hb.output

/-! ### operands -/
mutual
def okVal : Value → AV → Bool
  | .int k n, .int k' n' => decide (k = k') && decide (n = n')
  | .bool b, .bool b' => b == b'
  | .string z, .str s => decide (z.data.toList = s)
  | .pointer none, .ptr none => true
  | .slice none 0 0, .sl none _ 0 _ => true
  | .map none, .map none => true
  | .nilFunc, .nilFn => true
  | .nilIface, .nilI => true
  | .iface t v, .ifc t' x => decide (t = t') && okVal v x
  | .agg cs, .agg l => okVals cs.toList l && l.all oneCell
  | _, _ => false
def okVals : List Value → List AV → Bool
  | [], [] => true
  | v :: r, x :: l => okVal v x && okVals r l
  | _, _ => false
end
mutual
theorem okVal_sound {m : LMap} : ∀ {v : Value} {x : AV}, okVal v x = true → VR m x v := by
  intro v x h
  cases x with
  | int k n => cases v <;> simp [okVal] at h; obtain ⟨rfl, rfl⟩ := h; simp [VR]
  | bool b => cases v <;> simp [okVal] at h; subst h; simp [VR]
  | str s =>
    cases v <;> simp [okVal] at h
    subst h; simp [VR]
  | ptr a => cases a <;> rcases v with _ | _ | _ | _ | _ | (_ | _) | _ | _ | _ | _ | _ | _ | _ | _ | _ <;> simp [okVal] at h; simp [VR]
  | sl a sz len cap =>
    cases a with
    | some p => cases v <;> simp [okVal] at h
    | none =>
      unfold okVal at h
      split at h <;> first | (rename_i e; cases e; done) | skip
      all_goals first | (rename_i e _; cases e; done) | (rename_i e; cases e; simp [VR]; done) | (cases h; done) | (simp_all [VR]; done)
  | map a => cases a <;> rcases v with _ | _ | _ | _ | _ | _ | _ | (_ | _) | _ | _ | _ | _ | _ | _ | _ <;> simp [okVal] at h; simp [VR]
  | fn f caps => cases v <;> simp [okVal] at h
  | nilFn => cases v <;> simp [okVal] at h; simp [VR]
  | nilI => cases v <;> simp [okVal] at h; simp [VR]
  | und => cases v <;> simp [okVal] at h
  | ifc t y => cases v <;> simp [okVal] at h; obtain ⟨rfl, h⟩ := h; simp only [VR]; exact ⟨_, rfl, okVal_sound h⟩
  | agg l => cases v <;> simp [okVal] at h; simp only [VR]; exact ⟨_, rfl, okVals_sound h.1, by simpa using h.2⟩
  | tup l => cases v <;> simp [okVal] at h
theorem okVals_sound {m : LMap} : ∀ {vs : List Value} {l : List AV}, okVals vs l = true → VRs m l vs := by
  intro vs l h
  cases l with
  | nil => cases vs <;> simp [okVals] at h; simp [VRs]
  | cons x l =>
    cases vs <;> simp [okVals] at h
    simp only [VRs]
    exact ⟨_, _, rfl, okVal_sound h.1, okVals_sound h.2⟩
end

def okOpd (G : List Nat) : Operand → Opd → Bool
  | .tmp n, .t n' => decide (n = n')
  | .const v, .c x => okVal v x
  | .global g, .g g' => decide (g = g') && G.contains g
  | .func f, .f f' => decide (f = f')
  | _, _ => false
def okOpds (G : List Nat) : List Operand → List Opd → Bool
  | [], [] => true
  | x :: l, y :: l' => okOpd G x y && okOpds G l l'
  | _, _ => false
def Opd.tmps : Opd → List Nat
  | .t n => [n]
  | _ => []
def optT : Option Opd → List Nat
  | none => []
  | some x => x.tmps
def opdsT (l : List Opd) : List Nat := l.flatMap Opd.tmps
def partsT (l : List (Nat × Nat × Opd)) : List Nat := l.flatMap fun p => p.2.2.tmps
def AOp.tmps : AOp → List Nat
  | .mov x | .box x | .nilchk x | .not x | .neg x | .conv _ x | .convS x | .mkIfc _ x | .fieldA _ x | .field _ _ _ x | .extract x _ | .len _ x | .load _ _ x | .clear _ _ x => x.tmps
  | .pick c a b => c.tmps ++ a.tmps ++ b.tmps
  | .alloc _ | .mkMap => []
  | .build _ ps | .bslice _ _ _ _ ps => partsT ps
  | .store _ a v | .bin _ a v | .eq _ _ a v | .indexA _ a v | .index a v | .lookup _ _ a v | .mdel a v | .append _ _ _ a v | .copy _ a v | .minmax _ a v => a.tmps ++ v.tmps
  | .mkFn _ l => opdsT l
  | .mkSlice _ _ _ _ a b => a.tmps ++ b.tmps
  | .slc _ x lo hi => x.tmps ++ optT lo ++ optT hi
  | .slc3 _ x a b => x.tmps ++ a.tmps ++ b.tmps
  | .mset a b c => a.tmps ++ b.tmps ++ c.tmps
  | .callF _ l => opdsT l
  | .callV x l => x.tmps ++ opdsT l

/-- The globals that the text names have their blocks. -/
def GOk (G : List Nat) (m : LMap) : Prop := ∀ g, g ∈ G → ∃ n, m g = some ⟨g, 0, n⟩
theorem GOk.mono {G : List Nat} {m m' : LMap} (h : GOk G m) (hs : LSub m m') : GOk G m' := fun g hg => by
  obtain ⟨n, hn⟩ := h g hg
  exact ⟨n, hs _ _ hn⟩
/-- The slots of some temporaries hold what the abstract frame has. -/
def FOn (m : LMap) (fr : Fr) (a : Act) (l : List Nat) : Prop := ∀ n ∈ l, ∀ v, Fr.get fr n = some v → VR m v (a.tmps.getD n undef)

theorem ev_sound {G : List Nat} {m : LMap} (hG : GOk G m) {fr : Fr} {a : Act} {x : Operand} {y : Opd} (hok : okOpd G x y = true) (hf : FOn m fr a y.tmps) {v : AV} (hv : y.ev fr = some v) : VR m v (a.eval x) := by
  cases x <;> cases y <;> simp [okOpd] at hok
  · subst hok
    exact hf _ (by simp [Opd.tmps]) v hv
  · simp only [Opd.ev, Option.some.injEq] at hv; subst hv
    exact okVal_sound hok
  · obtain ⟨rfl, hg⟩ := hok
    obtain ⟨n, hn⟩ := hG _ hg
    simp only [Opd.ev, Option.some.injEq] at hv; subst hv
    simp only [VR, Act.eval]
    exact ⟨_, hn, by simp⟩
  · subst hok
    simp only [Opd.ev, Option.some.injEq] at hv; subst hv
    simp only [VR, Act.eval]
    exact ⟨#[], rfl, by simp [VRs]⟩
theorem FOn.sub {m : LMap} {fr : Fr} {a : Act} {l l' : List Nat} (h : FOn m fr a l) (hs : ∀ n ∈ l', n ∈ l) : FOn m fr a l' := fun n hn v hv => h n (hs n hn) v hv
theorem evs_sound {G : List Nat} {m : LMap} (hG : GOk G m) {fr : Fr} {a : Act} : ∀ {xs : List Operand} {ys : List Opd} {vs : List AV}, okOpds G xs ys = true → FOn m fr a (opdsT ys) → evs fr ys = some vs → VRs m vs (xs.map a.eval)
  | [], [], vs, _, _, hv => by simp only [evs, Option.some.injEq] at hv; subst hv; simp [VRs]
  | [], _ :: _, _, h, _, _ => by simp [okOpds] at h
  | _ :: _, [], _, h, _, _ => by simp [okOpds] at h
  | x :: xs, y :: ys, vs, h, hf, hv => by
    simp only [okOpds, Bool.and_eq_true] at h
    simp only [evs, Option.bind_eq_some_iff, Option.map_eq_some_iff] at hv
    obtain ⟨v, h1, r, h2, rfl⟩ := hv
    simp only [List.map_cons, VRs]
    exact ⟨_, _, rfl, ev_sound hG h.1 (hf.sub fun n hn => by simp [opdsT, hn]) h1, evs_sound hG h.2 (hf.sub fun n hn => by simp only [opdsT, List.flatMap_cons, List.mem_append]; exact .inr hn) h2⟩

/-! ### parts put into cells -/
theorem foldl_splice (vs : List Value) : ∀ (off k : Nat) (cs : Array Value), off + k + vs.length ≤ cs.size →
    ((vs.zipIdx k).foldl (fun cs (p : Value × Nat) => cs.setIfInBounds (off + p.2) p.1) cs).toList = cs.toList.take (off + k) ++ vs ++ cs.toList.drop (off + k + vs.length) := by
  induction vs with
  | nil => intro off k cs _; simp
  | cons v r ih =>
    intro off k cs h
    simp only [List.length_cons] at h
    rw [List.zipIdx_cons, List.foldl_cons, ih off (k + 1) _ (by simp; omega)]
    simp only [Array.toList_setIfInBounds]
    apply List.ext_getElem?
    intro j
    have hlen : cs.toList.length = cs.size := by simp
    simp only [List.getElem?_append, List.length_take, List.length_set, hlen, List.getElem?_take, List.getElem?_drop, List.length_append, List.length_cons, List.getElem?_set]
    by_cases h1 : j < off + k
    · rw [if_pos (by omega), if_pos (by omega), if_pos (by omega), if_neg (by omega), if_pos (by omega), if_pos (by omega), if_pos (by omega)]
    · by_cases h2 : j = off + k
      · subst h2
        rw [if_pos (by omega), if_pos (by omega), if_pos (by omega), if_pos rfl, if_pos (by omega), if_pos (by omega), if_neg (by omega)]
        rw [show off + k - min (off + k) cs.size = 0 by omega]
        rfl
      · by_cases h3 : j < off + k + 1 + r.length
        · rw [if_pos (by omega), if_neg (by omega), if_pos (by omega), if_neg (by omega)]
          rw [show j - min (off + k) cs.size = (j - min (off + (k + 1)) cs.size) + 1 by omega, List.getElem?_cons_succ]
        · rw [if_neg (by omega), if_neg (by omega)]
          rw [if_neg (by omega)]
          congr 1
          omega
theorem splice_VRs {m : LMap} {l : List AV} {cs : List Value} {news : List AV} {vs : List Value} (h : VRs m l cs) (hn : VRs m news vs) (off : Nat) : VRs m (l.take off ++ news ++ l.drop (off + news.length)) (cs.take off ++ vs ++ cs.drop (off + vs.length)) := by
  rw [hn.length]
  exact ((h.take off).append hn).append (h.drop _)
theorem fill_sound {m : LMap} (place : Nat → Option (Nat × Nat)) : ∀ (ps : List (Nat × Value)) (qs : List (Nat × Nat × AV)) (l r : List AV) (cs : Array Value), ps.length = qs.length →
    (∀ (j : Nat) (p : Nat × Value) (q : Nat × Nat × AV), ps[j]? = some p → qs[j]? = some q → place p.1 = some (q.1, q.2.1) ∧ VR m q.2.2 p.2) → VRs m l cs.toList → l.all oneCell = true → fillA l qs = some r →
    ∃ cs', Instr.fill place cs ps = some cs' ∧ VRs m r cs'.toList ∧ r.all oneCell = true
  | [], [], l, r, cs, _, _, hl, h1, hr => by simp only [fillA, Option.some.injEq] at hr; subst hr; exact ⟨cs, rfl, hl, h1⟩
  | [], _ :: _, _, _, _, h, _, _, _, _ => by simp at h
  | _ :: _, [], _, _, _, h, _, _, _, _ => by simp at h
  | (i, v) :: ps, (off, n, x) :: qs, l, r, cs, hlen, hp, hl, h1, hr => by
    obtain ⟨h2, h3⟩ := hp 0 _ _ rfl rfl
    simp only at h2 h3
    simp only [fillA] at hr
    split at hr
    · rename_i hc
      obtain ⟨hc1, hc2, hc3⟩ := hc
      obtain ⟨h4, h5⟩ := h3.cells hc3
      have h6 := h4.length
      have h7 := hl.length
      have hvs : v.cells.size = n := by rw [← hc1, ← h6]; simp
      have hsz : cs.size = l.length := by rw [← h7]; simp
      have hsp := foldl_splice v.cells.toList off 0 cs (by simp; omega)
      have hfold : v.cells.zipIdx.foldl (fun cs (c, j) => cs.setIfInBounds (off + j) c) cs = (v.cells.toList.zipIdx 0).foldl (fun cs (p : Value × Nat) => cs.setIfInBounds (off + p.2) p.1) cs := by
        rw [← Array.foldl_toList, Array.toList_zipIdx]
      have hnew : VRs m (l.take off ++ cellsOf x ++ l.drop (off + n)) (v.cells.zipIdx.foldl (fun cs (c, j) => cs.setIfInBounds (off + j) c) cs).toList := by
        rw [hfold, hsp]
        have := splice_VRs hl h4 off
        rw [hc1] at this
        simpa using this
      have hall : (l.take off ++ cellsOf x ++ l.drop (off + n)).all oneCell = true := by
        simp only [List.all_append, Bool.and_eq_true]
        refine ⟨⟨?_, hc3⟩, ?_⟩
        · rw [List.all_eq_true] at h1 ⊢; exact fun y hy => h1 y (List.mem_of_mem_take hy)
        · rw [List.all_eq_true] at h1 ⊢; exact fun y hy => h1 y (List.mem_of_mem_drop hy)
      obtain ⟨cs', h8, h9⟩ := fill_sound place ps qs _ r _ (by simpa using hlen) (fun j p q hj hq => hp (j + 1) p q (by simpa using hj) (by simpa using hq)) hnew hall hr
      refine ⟨cs', ?_, h9⟩
      unfold Instr.fill
      rw [h2]
      simp only []
      rw [if_neg (by simp [hvs]; omega)]
      exact h8
    · cases hr
end Go.Proofs.YtlecbjcloleiiaaDoor.Ram
