/- The numbers of types and functions. -/
import Derived.Test.YtfdjmooifnmanaaDoorVQ
import Derived.Test.YtfdjmooifnmanaaDoorProg
namespace Go.V
open Go.Proofs
noncomputable abbrev prog : Program := Tryd.prog
abbrev ty_string : TypeId := 9
abbrev ty_int : TypeId := 3
abbrev ty_uint8 : TypeId := 5
abbrev ty_bool : TypeId := 4
abbrev ty_held : TypeId := 71
abbrev ty_refState : TypeId := 999999
abbrev ty_Step : TypeId := 999999
abbrev ty_Builder : TypeId := 80
abbrev ty_uint32 : TypeId := 101
abbrev g_internal_bytealg_MaxLen : Nat := 0
abbrev g_crc_steps : Nat := 1
abbrev g_unicode_utf8_first : Nat := 2
abbrev g_unicode_utf8_acceptRanges : Nat := 3
abbrev f_main_main : FuncId := 0
abbrev f_gosem_cut : FuncId := 1
abbrev f_gosem_cut_init : FuncId := 2
abbrev f_headgatelaw06_JournalNone : FuncId := 3
abbrev f_headgatelaw06_JournalFull : FuncId := 4
abbrev f_headgatelaw06_JournalSwitch : FuncId := 5
abbrev f_headgatelaw06_wakes : FuncId := 6
abbrev f_headgatekeep_Mod : FuncId := 7
abbrev f_dev_New : FuncId := 8
abbrev f_journal_Open : FuncId := 9
abbrev f_journal_Format : FuncId := 10
abbrev f_journal_Journal_Append : FuncId := 11
abbrev f_journal_Journal_Checkpoint : FuncId := 12
abbrev f_journal_Journal_Sync : FuncId := 13
abbrev f_journal_Journal_Base : FuncId := 14
abbrev f_journal_Journal_Records : FuncId := 15
abbrev f_journal_Journal_Room : FuncId := 16
abbrev f_headgatekeep_Zeros : FuncId := 17
abbrev f_dev_Dev_Arm : FuncId := 18
abbrev f_dev_Dev_Crash : FuncId := 19
abbrev f_headgatekeep_Texts : FuncId := 20
abbrev f_journal_placed : FuncId := 21
abbrev f_journal_Journal_slot : FuncId := 22
abbrev f_sync_atomic_Int64_Store : FuncId := 23
abbrev f_dev_Dev_Read : FuncId := 24
abbrev f_journal_Journal_place : FuncId := 25
abbrev f_frame_Get : FuncId := 26
abbrev f_journal_Journal_flush : FuncId := 27
abbrev f_frame_Sectors : FuncId := 28
abbrev f_dev_Dev_Write : FuncId := 29
abbrev f_strings_Repeat : FuncId := 30
abbrev f_journal_Journal_puts : FuncId := 31
abbrev f_dev_Dev_sector : FuncId := 32
abbrev f_dev_Dev_settle : FuncId := 33
abbrev f_dev_Dev_Size : FuncId := 34
abbrev f_fields_Big : FuncId := 35
abbrev f_strings_HasPrefix : FuncId := 36
abbrev f_sync_atomic_StoreInt64 : FuncId := 37
abbrev f_strings_Builder_WriteString : FuncId := 38
abbrev f_strings_Builder_String : FuncId := 39
abbrev f_frame_Get_1 : FuncId := 40
abbrev f_frame_got : FuncId := 41
abbrev f_journal_Journal_failed : FuncId := 42
abbrev f_dev_Dev_Flush : FuncId := 43
abbrev f_dev_Dev_operation : FuncId := 44
abbrev f_math_bits_Mul : FuncId := 45
abbrev f_strings_Builder_Grow : FuncId := 46
abbrev f_strings_Builder_Len : FuncId := 47
abbrev f_sync_atomic_Int64_Load : FuncId := 48
abbrev f_frame_Put : FuncId := 49
abbrev f_fields_PutBig : FuncId := 50
abbrev f_dev_Dev_kept : FuncId := 51
abbrev f_fields_get_uint64_ : FuncId := 52
abbrev f_internal_stringslite_HasPrefix : FuncId := 53
abbrev f_strings_Builder_copyCheck : FuncId := 54
abbrev f_frame_want : FuncId := 55
abbrev f_crc_Right : FuncId := 56
abbrev f_strings_Trim : FuncId := 57
abbrev f_sync_atomic_Int64_Add : FuncId := 58
abbrev f_math_bits_Mul32 : FuncId := 59
abbrev f_math_bits_Mul64 : FuncId := 60
abbrev f_strings_Builder_grow : FuncId := 61
abbrev f_sync_atomic_LoadInt64 : FuncId := 62
abbrev f_fields_Pad : FuncId := 63
abbrev f_crc_Digest : FuncId := 64
abbrev f_fields_put_uint64_ : FuncId := 65
abbrev f_fields_shifts : FuncId := 66
abbrev f_internal_abi_NoEscape : FuncId := 67
abbrev f_strings_trimLeftByte : FuncId := 68
abbrev f_strings_trimRightByte : FuncId := 69
abbrev f_strings_makeASCIISet : FuncId := 70
abbrev f_strings_trimLeftASCII : FuncId := 71
abbrev f_strings_trimRightASCII : FuncId := 72
abbrev f_strings_trimLeftUnicode : FuncId := 73
abbrev f_strings_trimRightUnicode : FuncId := 74
abbrev f_sync_atomic_AddInt64 : FuncId := 75
abbrev f_internal_bytealg_MakeNoZero : FuncId := 76
abbrev f_fields_PutLittle : FuncId := 77
abbrev f_crc_Sum : FuncId := 78
abbrev f_strings_asciiSet_contains : FuncId := 79
abbrev f_unicode_utf8_DecodeRuneInString : FuncId := 80
abbrev f_strings_ContainsRune : FuncId := 81
abbrev f_unicode_utf8_DecodeLastRuneInString : FuncId := 82
abbrev f_crc_More : FuncId := 83
abbrev f_unicode_utf8_decodeRuneInStringSlow : FuncId := 84
abbrev f_strings_IndexRune : FuncId := 85
abbrev f_unicode_utf8_RuneStart : FuncId := 86
abbrev f_strings_IndexByte : FuncId := 87
abbrev f_unicode_utf8_ValidRune : FuncId := 88
abbrev f_internal_bytealg_Cutover : FuncId := 89
abbrev f_internal_bytealg_IndexString : FuncId := 90
abbrev f_internal_stringslite_IndexByte : FuncId := 91
abbrev f_internal_bytealg_IndexByteString : FuncId := 92
abbrev f_runtime_boundsError_Error : FuncId := 93
abbrev f_runtime_boundsError_RuntimeError : FuncId := 94
abbrev f_runtime_errorString_Error : FuncId := 95
abbrev f_runtime_errorString_RuntimeError : FuncId := 96
abbrev f_runtime_plainError_Error : FuncId := 97
abbrev f_runtime_plainError_RuntimeError : FuncId := 98
abbrev f_runtime_errorAddressString_Error : FuncId := 99
abbrev f_runtime_errorAddressString_RuntimeError : FuncId := 100
abbrev f_runtime_TypeAssertionError_Error : FuncId := 101
abbrev f_runtime_TypeAssertionError_RuntimeError : FuncId := 102
abbrev f_runtime_PanicNilError_Error : FuncId := 103
abbrev f_runtime_PanicNilError_RuntimeError : FuncId := 104
abbrev f_internal_abi_Type_Align : FuncId := 105
abbrev f_internal_runtime_maps_unhashableTypeError_Error : FuncId := 106
abbrev f_internal_runtime_maps_unhashableTypeError_RuntimeError : FuncId := 107
abbrev f_api_Errno_Error : FuncId := 108
abbrev f_strings_Builder_Reset : FuncId := 109
abbrev f_internal_abi_Kind_String : FuncId := 110
abbrev f_var_s_door__gosem_cut_vars_holds_initialisers_alone__see_the_manifest_s_row_cutvarsword_look_11__test_files_too : FuncId := 111
abbrev f_var_s_door__crc_steps_is_laid_by_its_own_initialiser__plain_data_look_11 : FuncId := 112
abbrev f_var_s_door__the_look_of_gosem_cut_vars_went_over_the_folder_that_the_caller_named_as_the_repository_s_root_look_11 : FuncId := 113
abbrev f_var_s_door__unicode_utf8_acceptRanges_is_laid_by_its_own_initialiser__plain_data_look_11 : FuncId := 114
abbrev f_var_s_door__unicode_utf8_first_is_laid_by_its_text_alone_pinned_1 : FuncId := 115
abbrev f_gosem_cut_vars : FuncId := 116
theorem func_sync_atomic_Int64_Load : prog.funcs[48]? = some Tryd.f48 := Tryd.func48
noncomputable abbrev fn_sync_atomic_Int64_Load : Func := Tryd.f48
theorem ntmps_sync_atomic_Int64_Load : Tryd.f48.ntmps = 7 := Tryd.ntmps48
theorem func_sync_atomic_Int64_Store : prog.funcs[23]? = some Tryd.f23 := Tryd.func23
noncomputable abbrev fn_sync_atomic_Int64_Store : Func := Tryd.f23
theorem ntmps_sync_atomic_Int64_Store : Tryd.f23.ntmps = 9 := Tryd.ntmps23
theorem func_sync_atomic_Int64_Add : prog.funcs[58]? = some Tryd.f58 := Tryd.func58
noncomputable abbrev fn_sync_atomic_Int64_Add : Func := Tryd.f58
theorem ntmps_sync_atomic_Int64_Add : Tryd.f58.ntmps = 10 := Tryd.ntmps58
theorem func_strings_Builder_copyCheck : prog.funcs[54]? = some Tryd.f54 := Tryd.func54
noncomputable abbrev fn_strings_Builder_copyCheck : Func := Tryd.f54
theorem ntmps_strings_Builder_copyCheck : Tryd.f54.ntmps = 20 := Tryd.ntmps54
theorem func_strings_Builder_String : prog.funcs[39]? = some Tryd.f39 := Tryd.func39
noncomputable abbrev fn_strings_Builder_String : Func := Tryd.f39
theorem ntmps_strings_Builder_String : Tryd.f39.ntmps = 14 := Tryd.ntmps39
theorem func_strings_Builder_Grow : prog.funcs[46]? = some Tryd.f46 := Tryd.func46
noncomputable abbrev fn_strings_Builder_Grow : Func := Tryd.f46
theorem ntmps_strings_Builder_Grow : Tryd.f46.ntmps = 25 := Tryd.ntmps46
theorem func_strings_Builder_grow : prog.funcs[61]? = some Tryd.f61 := Tryd.func61
noncomputable abbrev fn_strings_Builder_grow : Func := Tryd.f61
theorem ntmps_strings_Builder_grow : Tryd.f61.ntmps = 30 := Tryd.ntmps61
theorem func_frame_Get : prog.funcs[26]? = some Tryd.f26 := Tryd.func26
noncomputable abbrev fn_frame_Get : Func := Tryd.f26
theorem ntmps_frame_Get : Tryd.f26.ntmps = 16 := Tryd.ntmps26
theorem func_frame_Get_1 : prog.funcs[40]? = some Tryd.f40 := Tryd.func40
noncomputable abbrev fn_frame_Get_1 : Func := Tryd.f40
theorem ntmps_frame_Get_1 : Tryd.f40.ntmps = 15 := Tryd.ntmps40
end Go.V
