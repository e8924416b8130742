/-
  Facts on the types and functions of the program, for the evaluator (each by the kernel).
-/
import Derived.Test.YtengjcdilnikhaaDoorAmApp
import Derived.Test.YtengjcdilnikhaaDoorProg
namespace Go.Proofs.YtengjcdilnikhaaDoor.Am
open Go
theorem ty_tsz_0 : tsz Tryd.prog 0 = some 1 := by kernel_rfl
theorem ty_tagg_0 : tagg Tryd.prog 0 = some false := by kernel_rfl
theorem ty_hasU_0 : hasU Tryd.prog 0 = true := by kernel_rfl
theorem ty_tby_0 : tby Tryd.prog 0 = some 0 := by kernel_rfl
theorem ty_isIntT_0 : isIntT Tryd.prog 0 = false := by kernel_rfl
theorem ty_tsz_1 : tsz Tryd.prog 1 = some 1 := by kernel_rfl
theorem ty_tagg_1 : tagg Tryd.prog 1 = some false := by kernel_rfl
theorem ty_hasU_1 : hasU Tryd.prog 1 = true := by kernel_rfl
theorem ty_tby_1 : tby Tryd.prog 1 = some 8 := by kernel_rfl
theorem ty_isIntT_1 : isIntT Tryd.prog 1 = false := by kernel_rfl
theorem ty_tzero_1 : tzero Tryd.prog 1 = some [.nilFunc] := by kernel_rfl
theorem ty_tsz_2 : tsz Tryd.prog 2 = some 1 := by kernel_rfl
theorem ty_tagg_2 : tagg Tryd.prog 2 = some false := by kernel_rfl
theorem ty_intK_2 : intK Tryd.prog 2 = some .i64 := by kernel_rfl
theorem ty_hasU_2 : hasU Tryd.prog 2 = true := by kernel_rfl
theorem ty_tby_2 : tby Tryd.prog 2 = some 8 := by kernel_rfl
theorem ty_tzero_2 : tzero Tryd.prog 2 = some [(.int .i64 0)] := by kernel_rfl
theorem ty_tsz_3 : tsz Tryd.prog 3 = some 1 := by kernel_rfl
theorem ty_tagg_3 : tagg Tryd.prog 3 = some false := by kernel_rfl
theorem ty_intK_3 : intK Tryd.prog 3 = some .i64 := by kernel_rfl
theorem ty_hasU_3 : hasU Tryd.prog 3 = true := by kernel_rfl
theorem ty_tby_3 : tby Tryd.prog 3 = some 8 := by kernel_rfl
theorem ty_tzero_3 : tzero Tryd.prog 3 = some [(.int .i64 0)] := by kernel_rfl
theorem ty_tsz_4 : tsz Tryd.prog 4 = some 1 := by kernel_rfl
theorem ty_tagg_4 : tagg Tryd.prog 4 = some false := by kernel_rfl
theorem ty_hasU_4 : hasU Tryd.prog 4 = true := by kernel_rfl
theorem ty_isBoolT_4 : isBoolT Tryd.prog 4 = true := by kernel_rfl
theorem ty_tby_4 : tby Tryd.prog 4 = some 1 := by kernel_rfl
theorem ty_isIntT_4 : isIntT Tryd.prog 4 = false := by kernel_rfl
theorem ty_tzero_4 : tzero Tryd.prog 4 = some [(.bool false)] := by kernel_rfl
theorem ty_tsz_5 : tsz Tryd.prog 5 = some 1 := by kernel_rfl
theorem ty_tagg_5 : tagg Tryd.prog 5 = some false := by kernel_rfl
theorem ty_intK_5 : intK Tryd.prog 5 = some .u8 := by kernel_rfl
theorem ty_hasU_5 : hasU Tryd.prog 5 = true := by kernel_rfl
theorem ty_tby_5 : tby Tryd.prog 5 = some 1 := by kernel_rfl
theorem ty_tzero_5 : tzero Tryd.prog 5 = some [(.int .u8 0)] := by kernel_rfl
theorem ty_tsz_6 : tsz Tryd.prog 6 = some 1 := by kernel_rfl
theorem ty_tagg_6 : tagg Tryd.prog 6 = some false := by kernel_rfl
theorem ty_intK_6 : intK Tryd.prog 6 = some .u8 := by kernel_rfl
theorem ty_hasU_6 : hasU Tryd.prog 6 = true := by kernel_rfl
theorem ty_tby_6 : tby Tryd.prog 6 = some 1 := by kernel_rfl
theorem ty_tzero_6 : tzero Tryd.prog 6 = some [(.int .u8 0)] := by kernel_rfl
theorem ty_tsz_7 : tsz Tryd.prog 7 = some 4 := by kernel_rfl
theorem ty_tagg_7 : tagg Tryd.prog 7 = some true := by kernel_rfl
theorem ty_arE_7 : arE Tryd.prog 7 = none := by kernel_rfl
theorem ty_arS_7 : arS Tryd.prog 7 = none := by kernel_rfl
theorem ty_hasU_7 : hasU Tryd.prog 7 = true := by kernel_rfl
theorem ty_stPl_7 : stPl Tryd.prog 7 = some [(0, 1), (1, 1), (2, 1), (3, 1)] := by kernel_rfl
theorem ty_tby_7 : tby Tryd.prog 7 = some 24 := by kernel_rfl
theorem ty_isIntT_7 : isIntT Tryd.prog 7 = false := by kernel_rfl
theorem ty_flds_7 : flds Tryd.prog 7 = some [(0, 2), (1, 3), (2, 4), (3, 6)] := by kernel_rfl
theorem ty_tzero_7 : tzero Tryd.prog 7 = some [(.int .i64 0), (.int .i64 0), (.bool false), (.int .u8 0)] := by kernel_rfl
theorem ty_fldO_7_0 : fldO Tryd.prog 7 0 = some 0 := by kernel_rfl
theorem ty_fldT_7_0 : fldT Tryd.prog 7 0 = some (2, 0) := by kernel_rfl
theorem ty_fldO_7_1 : fldO Tryd.prog 7 1 = some 1 := by kernel_rfl
theorem ty_fldT_7_1 : fldT Tryd.prog 7 1 = some (3, 1) := by kernel_rfl
theorem ty_fldO_7_2 : fldO Tryd.prog 7 2 = some 2 := by kernel_rfl
theorem ty_fldT_7_2 : fldT Tryd.prog 7 2 = some (4, 2) := by kernel_rfl
theorem ty_fldO_7_3 : fldO Tryd.prog 7 3 = some 3 := by kernel_rfl
theorem ty_fldT_7_3 : fldT Tryd.prog 7 3 = some (6, 3) := by kernel_rfl
theorem ty_tsz_8 : tsz Tryd.prog 8 = some 4 := by kernel_rfl
theorem ty_tagg_8 : tagg Tryd.prog 8 = some true := by kernel_rfl
theorem ty_arE_8 : arE Tryd.prog 8 = none := by kernel_rfl
theorem ty_arS_8 : arS Tryd.prog 8 = none := by kernel_rfl
theorem ty_hasU_8 : hasU Tryd.prog 8 = true := by kernel_rfl
theorem ty_stPl_8 : stPl Tryd.prog 8 = some [(0, 1), (1, 1), (2, 1), (3, 1)] := by kernel_rfl
theorem ty_tby_8 : tby Tryd.prog 8 = some 24 := by kernel_rfl
theorem ty_isIntT_8 : isIntT Tryd.prog 8 = false := by kernel_rfl
theorem ty_flds_8 : flds Tryd.prog 8 = some [(0, 2), (1, 3), (2, 4), (3, 6)] := by kernel_rfl
theorem ty_tzero_8 : tzero Tryd.prog 8 = some [(.int .i64 0), (.int .i64 0), (.bool false), (.int .u8 0)] := by kernel_rfl
theorem ty_fldO_8_0 : fldO Tryd.prog 8 0 = some 0 := by kernel_rfl
theorem ty_fldT_8_0 : fldT Tryd.prog 8 0 = some (2, 0) := by kernel_rfl
theorem ty_fldO_8_1 : fldO Tryd.prog 8 1 = some 1 := by kernel_rfl
theorem ty_fldT_8_1 : fldT Tryd.prog 8 1 = some (3, 1) := by kernel_rfl
theorem ty_fldO_8_2 : fldO Tryd.prog 8 2 = some 2 := by kernel_rfl
theorem ty_fldT_8_2 : fldT Tryd.prog 8 2 = some (4, 2) := by kernel_rfl
theorem ty_fldO_8_3 : fldO Tryd.prog 8 3 = some 3 := by kernel_rfl
theorem ty_fldT_8_3 : fldT Tryd.prog 8 3 = some (6, 3) := by kernel_rfl
theorem ty_tsz_9 : tsz Tryd.prog 9 = some 1 := by kernel_rfl
theorem ty_tagg_9 : tagg Tryd.prog 9 = some false := by kernel_rfl
theorem ty_isStr_9 : isStr Tryd.prog 9 = true := by kernel_rfl
theorem ty_hasU_9 : hasU Tryd.prog 9 = true := by kernel_rfl
theorem ty_tby_9 : tby Tryd.prog 9 = some 16 := by kernel_rfl
theorem ty_isIntT_9 : isIntT Tryd.prog 9 = false := by kernel_rfl
theorem ty_tzero_9 : tzero Tryd.prog 9 = some [(.string ByteArray.empty)] := by kernel_rfl
theorem ty_tsz_10 : tsz Tryd.prog 10 = some 1 := by kernel_rfl
theorem ty_tagg_10 : tagg Tryd.prog 10 = some false := by kernel_rfl
theorem ty_isStr_10 : isStr Tryd.prog 10 = true := by kernel_rfl
theorem ty_hasU_10 : hasU Tryd.prog 10 = true := by kernel_rfl
theorem ty_tby_10 : tby Tryd.prog 10 = some 16 := by kernel_rfl
theorem ty_isIntT_10 : isIntT Tryd.prog 10 = false := by kernel_rfl
theorem ty_tzero_10 : tzero Tryd.prog 10 = some [(.string ByteArray.empty)] := by kernel_rfl
theorem ty_tsz_11 : tsz Tryd.prog 11 = some 1 := by kernel_rfl
theorem ty_tagg_11 : tagg Tryd.prog 11 = some false := by kernel_rfl
theorem ty_isStr_11 : isStr Tryd.prog 11 = true := by kernel_rfl
theorem ty_hasU_11 : hasU Tryd.prog 11 = true := by kernel_rfl
theorem ty_tby_11 : tby Tryd.prog 11 = some 16 := by kernel_rfl
theorem ty_isIntT_11 : isIntT Tryd.prog 11 = false := by kernel_rfl
theorem ty_tzero_11 : tzero Tryd.prog 11 = some [(.string ByteArray.empty)] := by kernel_rfl
theorem ty_tsz_12 : tsz Tryd.prog 12 = some 1 := by kernel_rfl
theorem ty_tagg_12 : tagg Tryd.prog 12 = some false := by kernel_rfl
theorem ty_intK_12 : intK Tryd.prog 12 = some .u64 := by kernel_rfl
theorem ty_hasU_12 : hasU Tryd.prog 12 = true := by kernel_rfl
theorem ty_tby_12 : tby Tryd.prog 12 = some 8 := by kernel_rfl
theorem ty_tzero_12 : tzero Tryd.prog 12 = some [(.int .u64 0)] := by kernel_rfl
theorem ty_tsz_13 : tsz Tryd.prog 13 = some 2 := by kernel_rfl
theorem ty_tagg_13 : tagg Tryd.prog 13 = some true := by kernel_rfl
theorem ty_arE_13 : arE Tryd.prog 13 = none := by kernel_rfl
theorem ty_arS_13 : arS Tryd.prog 13 = none := by kernel_rfl
theorem ty_hasU_13 : hasU Tryd.prog 13 = true := by kernel_rfl
theorem ty_stPl_13 : stPl Tryd.prog 13 = some [(0, 1), (1, 1)] := by kernel_rfl
theorem ty_tby_13 : tby Tryd.prog 13 = some 24 := by kernel_rfl
theorem ty_isIntT_13 : isIntT Tryd.prog 13 = false := by kernel_rfl
theorem ty_tzero_13 : tzero Tryd.prog 13 = some [(.string ByteArray.empty), (.int .u64 0)] := by kernel_rfl
theorem ty_fldO_13_0 : fldO Tryd.prog 13 0 = some 0 := by kernel_rfl
theorem ty_fldT_13_0 : fldT Tryd.prog 13 0 = some (9, 0) := by kernel_rfl
theorem ty_fldO_13_1 : fldO Tryd.prog 13 1 = some 1 := by kernel_rfl
theorem ty_fldT_13_1 : fldT Tryd.prog 13 1 = some (12, 1) := by kernel_rfl
theorem ty_tsz_14 : tsz Tryd.prog 14 = some 2 := by kernel_rfl
theorem ty_tagg_14 : tagg Tryd.prog 14 = some true := by kernel_rfl
theorem ty_arE_14 : arE Tryd.prog 14 = none := by kernel_rfl
theorem ty_arS_14 : arS Tryd.prog 14 = none := by kernel_rfl
theorem ty_hasU_14 : hasU Tryd.prog 14 = true := by kernel_rfl
theorem ty_stPl_14 : stPl Tryd.prog 14 = some [(0, 1), (1, 1)] := by kernel_rfl
theorem ty_tby_14 : tby Tryd.prog 14 = some 24 := by kernel_rfl
theorem ty_isIntT_14 : isIntT Tryd.prog 14 = false := by kernel_rfl
theorem ty_tzero_14 : tzero Tryd.prog 14 = some [(.string ByteArray.empty), (.int .u64 0)] := by kernel_rfl
theorem ty_fldO_14_0 : fldO Tryd.prog 14 0 = some 0 := by kernel_rfl
theorem ty_fldT_14_0 : fldT Tryd.prog 14 0 = some (9, 0) := by kernel_rfl
theorem ty_fldO_14_1 : fldO Tryd.prog 14 1 = some 1 := by kernel_rfl
theorem ty_fldT_14_1 : fldT Tryd.prog 14 1 = some (12, 1) := by kernel_rfl
theorem ty_tsz_15 : tsz Tryd.prog 15 = some 1 := by kernel_rfl
theorem ty_tagg_15 : tagg Tryd.prog 15 = some false := by kernel_rfl
theorem ty_hasU_15 : hasU Tryd.prog 15 = true := by kernel_rfl
theorem ty_tby_15 : tby Tryd.prog 15 = some 8 := by kernel_rfl
theorem ty_isIntT_15 : isIntT Tryd.prog 15 = false := by kernel_rfl
theorem ty_tzero_15 : tzero Tryd.prog 15 = some [(.pointer none)] := by kernel_rfl
theorem ty_tsz_16 : tsz Tryd.prog 16 = some 1 := by kernel_rfl
theorem ty_tagg_16 : tagg Tryd.prog 16 = some false := by kernel_rfl
theorem ty_hasU_16 : hasU Tryd.prog 16 = true := by kernel_rfl
theorem ty_tby_16 : tby Tryd.prog 16 = some 8 := by kernel_rfl
theorem ty_isIntT_16 : isIntT Tryd.prog 16 = false := by kernel_rfl
theorem ty_tzero_16 : tzero Tryd.prog 16 = some [(.pointer none)] := by kernel_rfl
theorem ty_tsz_17 : tsz Tryd.prog 17 = some 1 := by kernel_rfl
theorem ty_tagg_17 : tagg Tryd.prog 17 = some false := by kernel_rfl
theorem ty_hasU_17 : hasU Tryd.prog 17 = true := by kernel_rfl
theorem ty_tby_17 : tby Tryd.prog 17 = some 8 := by kernel_rfl
theorem ty_isIntT_17 : isIntT Tryd.prog 17 = false := by kernel_rfl
theorem ty_tzero_17 : tzero Tryd.prog 17 = some [(.pointer none)] := by kernel_rfl
theorem ty_tsz_18 : tsz Tryd.prog 18 = some 1 := by kernel_rfl
theorem ty_tagg_18 : tagg Tryd.prog 18 = some true := by kernel_rfl
theorem ty_arE_18 : arE Tryd.prog 18 = none := by kernel_rfl
theorem ty_arS_18 : arS Tryd.prog 18 = none := by kernel_rfl
theorem ty_hasU_18 : hasU Tryd.prog 18 = true := by kernel_rfl
theorem ty_stPl_18 : stPl Tryd.prog 18 = some [(0, 1)] := by kernel_rfl
theorem ty_tby_18 : tby Tryd.prog 18 = some 8 := by kernel_rfl
theorem ty_isIntT_18 : isIntT Tryd.prog 18 = false := by kernel_rfl
theorem ty_tzero_18 : tzero Tryd.prog 18 = some [(.pointer none)] := by kernel_rfl
theorem ty_fldO_18_0 : fldO Tryd.prog 18 0 = some 0 := by kernel_rfl
theorem ty_fldT_18_0 : fldT Tryd.prog 18 0 = some (17, 0) := by kernel_rfl
theorem ty_tsz_19 : tsz Tryd.prog 19 = some 1 := by kernel_rfl
theorem ty_tagg_19 : tagg Tryd.prog 19 = some true := by kernel_rfl
theorem ty_arE_19 : arE Tryd.prog 19 = none := by kernel_rfl
theorem ty_arS_19 : arS Tryd.prog 19 = none := by kernel_rfl
theorem ty_hasU_19 : hasU Tryd.prog 19 = true := by kernel_rfl
theorem ty_stPl_19 : stPl Tryd.prog 19 = some [(0, 1)] := by kernel_rfl
theorem ty_tby_19 : tby Tryd.prog 19 = some 8 := by kernel_rfl
theorem ty_isIntT_19 : isIntT Tryd.prog 19 = false := by kernel_rfl
theorem ty_tzero_19 : tzero Tryd.prog 19 = some [(.pointer none)] := by kernel_rfl
theorem ty_fldO_19_0 : fldO Tryd.prog 19 0 = some 0 := by kernel_rfl
theorem ty_fldT_19_0 : fldT Tryd.prog 19 0 = some (17, 0) := by kernel_rfl
theorem ty_tsz_20 : tsz Tryd.prog 20 = some 1 := by kernel_rfl
theorem ty_tagg_20 : tagg Tryd.prog 20 = some false := by kernel_rfl
theorem ty_hasU_20 : hasU Tryd.prog 20 = true := by kernel_rfl
theorem ty_tby_20 : tby Tryd.prog 20 = some 16 := by kernel_rfl
theorem ty_isIntT_20 : isIntT Tryd.prog 20 = false := by kernel_rfl
theorem ty_tzero_20 : tzero Tryd.prog 20 = some [.nilIface] := by kernel_rfl
theorem ty_tsz_21 : tsz Tryd.prog 21 = some 1 := by kernel_rfl
theorem ty_tagg_21 : tagg Tryd.prog 21 = some false := by kernel_rfl
theorem ty_intK_21 : intK Tryd.prog 21 = some .i32 := by kernel_rfl
theorem ty_hasU_21 : hasU Tryd.prog 21 = true := by kernel_rfl
theorem ty_tby_21 : tby Tryd.prog 21 = some 4 := by kernel_rfl
theorem ty_tzero_21 : tzero Tryd.prog 21 = some [(.int .i32 0)] := by kernel_rfl
theorem ty_tsz_22 : tsz Tryd.prog 22 = some 1 := by kernel_rfl
theorem ty_tagg_22 : tagg Tryd.prog 22 = some false := by kernel_rfl
theorem ty_slE_22 : slE Tryd.prog 22 = some 34 := by kernel_rfl
theorem ty_slS_22 : slS Tryd.prog 22 = some 2 := by kernel_rfl
theorem ty_hasU_22 : hasU Tryd.prog 22 = true := by kernel_rfl
theorem ty_tby_22 : tby Tryd.prog 22 = some 24 := by kernel_rfl
theorem ty_isIntT_22 : isIntT Tryd.prog 22 = false := by kernel_rfl
theorem ty_tzero_22 : tzero Tryd.prog 22 = some [(.slice none 0 0)] := by kernel_rfl
theorem ty_tsz_23 : tsz Tryd.prog 23 = some 1 := by kernel_rfl
theorem ty_tagg_23 : tagg Tryd.prog 23 = some false := by kernel_rfl
theorem ty_slE_23 : slE Tryd.prog 23 = some 9 := by kernel_rfl
theorem ty_slS_23 : slS Tryd.prog 23 = some 1 := by kernel_rfl
theorem ty_hasU_23 : hasU Tryd.prog 23 = true := by kernel_rfl
theorem ty_tby_23 : tby Tryd.prog 23 = some 24 := by kernel_rfl
theorem ty_isIntT_23 : isIntT Tryd.prog 23 = false := by kernel_rfl
theorem ty_tzero_23 : tzero Tryd.prog 23 = some [(.slice none 0 0)] := by kernel_rfl
theorem ty_tsz_24 : tsz Tryd.prog 24 = some 2 := by kernel_rfl
theorem ty_tagg_24 : tagg Tryd.prog 24 = some true := by kernel_rfl
theorem ty_arE_24 : arE Tryd.prog 24 = none := by kernel_rfl
theorem ty_arS_24 : arS Tryd.prog 24 = none := by kernel_rfl
theorem ty_hasU_24 : hasU Tryd.prog 24 = true := by kernel_rfl
theorem ty_stPl_24 : stPl Tryd.prog 24 = some [(0, 1), (1, 1)] := by kernel_rfl
theorem ty_tby_24 : tby Tryd.prog 24 = some 48 := by kernel_rfl
theorem ty_isIntT_24 : isIntT Tryd.prog 24 = false := by kernel_rfl
theorem ty_flds_24 : flds Tryd.prog 24 = some [(0, 23), (1, 23)] := by kernel_rfl
theorem ty_tzero_24 : tzero Tryd.prog 24 = some [(.slice none 0 0), (.slice none 0 0)] := by kernel_rfl
theorem ty_fldO_24_0 : fldO Tryd.prog 24 0 = some 0 := by kernel_rfl
theorem ty_fldT_24_0 : fldT Tryd.prog 24 0 = some (23, 0) := by kernel_rfl
theorem ty_fldO_24_1 : fldO Tryd.prog 24 1 = some 1 := by kernel_rfl
theorem ty_fldT_24_1 : fldT Tryd.prog 24 1 = some (23, 1) := by kernel_rfl
theorem ty_tsz_25 : tsz Tryd.prog 25 = some 2 := by kernel_rfl
theorem ty_tagg_25 : tagg Tryd.prog 25 = some true := by kernel_rfl
theorem ty_arE_25 : arE Tryd.prog 25 = none := by kernel_rfl
theorem ty_arS_25 : arS Tryd.prog 25 = none := by kernel_rfl
theorem ty_hasU_25 : hasU Tryd.prog 25 = true := by kernel_rfl
theorem ty_stPl_25 : stPl Tryd.prog 25 = some [(0, 1), (1, 1)] := by kernel_rfl
theorem ty_tby_25 : tby Tryd.prog 25 = some 48 := by kernel_rfl
theorem ty_isIntT_25 : isIntT Tryd.prog 25 = false := by kernel_rfl
theorem ty_flds_25 : flds Tryd.prog 25 = some [(0, 23), (1, 23)] := by kernel_rfl
theorem ty_tzero_25 : tzero Tryd.prog 25 = some [(.slice none 0 0), (.slice none 0 0)] := by kernel_rfl
theorem ty_fldO_25_0 : fldO Tryd.prog 25 0 = some 0 := by kernel_rfl
theorem ty_fldT_25_0 : fldT Tryd.prog 25 0 = some (23, 0) := by kernel_rfl
theorem ty_fldO_25_1 : fldO Tryd.prog 25 1 = some 1 := by kernel_rfl
theorem ty_fldT_25_1 : fldT Tryd.prog 25 1 = some (23, 1) := by kernel_rfl
theorem ty_tsz_26 : tsz Tryd.prog 26 = some 1 := by kernel_rfl
theorem ty_tagg_26 : tagg Tryd.prog 26 = some false := by kernel_rfl
theorem ty_intK_26 : intK Tryd.prog 26 = some .u64 := by kernel_rfl
theorem ty_hasU_26 : hasU Tryd.prog 26 = true := by kernel_rfl
theorem ty_tby_26 : tby Tryd.prog 26 = some 8 := by kernel_rfl
theorem ty_tzero_26 : tzero Tryd.prog 26 = some [(.int .u64 0)] := by kernel_rfl
theorem ty_tsz_27 : tsz Tryd.prog 27 = some 1 := by kernel_rfl
theorem ty_tagg_27 : tagg Tryd.prog 27 = some false := by kernel_rfl
theorem ty_hasU_27 : hasU Tryd.prog 27 = true := by kernel_rfl
theorem ty_tby_27 : tby Tryd.prog 27 = some 8 := by kernel_rfl
theorem ty_isIntT_27 : isIntT Tryd.prog 27 = false := by kernel_rfl
theorem ty_tzero_27 : tzero Tryd.prog 27 = some [.nilFunc] := by kernel_rfl
theorem ty_tsz_28 : tsz Tryd.prog 28 = some 1 := by kernel_rfl
theorem ty_tagg_28 : tagg Tryd.prog 28 = some false := by kernel_rfl
theorem ty_hasU_28 : hasU Tryd.prog 28 = true := by kernel_rfl
theorem ty_tby_28 : tby Tryd.prog 28 = some 8 := by kernel_rfl
theorem ty_isIntT_28 : isIntT Tryd.prog 28 = false := by kernel_rfl
theorem ty_tzero_28 : tzero Tryd.prog 28 = some [.nilFunc] := by kernel_rfl
theorem ty_tsz_29 : tsz Tryd.prog 29 = some 1 := by kernel_rfl
theorem ty_tagg_29 : tagg Tryd.prog 29 = some false := by kernel_rfl
theorem ty_hasU_29 : hasU Tryd.prog 29 = true := by kernel_rfl
theorem ty_tby_29 : tby Tryd.prog 29 = some 8 := by kernel_rfl
theorem ty_isIntT_29 : isIntT Tryd.prog 29 = false := by kernel_rfl
theorem ty_tzero_29 : tzero Tryd.prog 29 = some [.nilFunc] := by kernel_rfl
theorem ty_tsz_30 : tsz Tryd.prog 30 = some 1 := by kernel_rfl
theorem ty_tagg_30 : tagg Tryd.prog 30 = some false := by kernel_rfl
theorem ty_intK_30 : intK Tryd.prog 30 = some .i64 := by kernel_rfl
theorem ty_hasU_30 : hasU Tryd.prog 30 = true := by kernel_rfl
theorem ty_tby_30 : tby Tryd.prog 30 = some 8 := by kernel_rfl
theorem ty_tzero_30 : tzero Tryd.prog 30 = some [(.int .i64 0)] := by kernel_rfl
theorem ty_tsz_31 : tsz Tryd.prog 31 = some 1 := by kernel_rfl
theorem ty_tagg_31 : tagg Tryd.prog 31 = some false := by kernel_rfl
theorem ty_hasU_31 : hasU Tryd.prog 31 = true := by kernel_rfl
theorem ty_tby_31 : tby Tryd.prog 31 = some 8 := by kernel_rfl
theorem ty_isIntT_31 : isIntT Tryd.prog 31 = false := by kernel_rfl
theorem ty_tzero_31 : tzero Tryd.prog 31 = some [.nilFunc] := by kernel_rfl
theorem ty_tsz_32 : tsz Tryd.prog 32 = some 1 := by kernel_rfl
theorem ty_tagg_32 : tagg Tryd.prog 32 = some false := by kernel_rfl
theorem ty_hasU_32 : hasU Tryd.prog 32 = true := by kernel_rfl
theorem ty_tby_32 : tby Tryd.prog 32 = some 8 := by kernel_rfl
theorem ty_isIntT_32 : isIntT Tryd.prog 32 = false := by kernel_rfl
theorem ty_tzero_32 : tzero Tryd.prog 32 = some [.nilFunc] := by kernel_rfl
theorem ty_tsz_33 : tsz Tryd.prog 33 = some 2 := by kernel_rfl
theorem ty_tagg_33 : tagg Tryd.prog 33 = some true := by kernel_rfl
theorem ty_arE_33 : arE Tryd.prog 33 = none := by kernel_rfl
theorem ty_arS_33 : arS Tryd.prog 33 = none := by kernel_rfl
theorem ty_hasU_33 : hasU Tryd.prog 33 = true := by kernel_rfl
theorem ty_stPl_33 : stPl Tryd.prog 33 = some [(0, 1), (1, 1)] := by kernel_rfl
theorem ty_tby_33 : tby Tryd.prog 33 = some 32 := by kernel_rfl
theorem ty_isIntT_33 : isIntT Tryd.prog 33 = false := by kernel_rfl
theorem ty_flds_33 : flds Tryd.prog 33 = some [(0, 26), (1, 23)] := by kernel_rfl
theorem ty_tzero_33 : tzero Tryd.prog 33 = some [(.int .u64 0), (.slice none 0 0)] := by kernel_rfl
theorem ty_fldO_33_0 : fldO Tryd.prog 33 0 = some 0 := by kernel_rfl
theorem ty_fldT_33_0 : fldT Tryd.prog 33 0 = some (26, 0) := by kernel_rfl
theorem ty_fldO_33_1 : fldO Tryd.prog 33 1 = some 1 := by kernel_rfl
theorem ty_fldT_33_1 : fldT Tryd.prog 33 1 = some (23, 1) := by kernel_rfl
theorem ty_tsz_34 : tsz Tryd.prog 34 = some 2 := by kernel_rfl
theorem ty_tagg_34 : tagg Tryd.prog 34 = some true := by kernel_rfl
theorem ty_arE_34 : arE Tryd.prog 34 = none := by kernel_rfl
theorem ty_arS_34 : arS Tryd.prog 34 = none := by kernel_rfl
theorem ty_hasU_34 : hasU Tryd.prog 34 = true := by kernel_rfl
theorem ty_stPl_34 : stPl Tryd.prog 34 = some [(0, 1), (1, 1)] := by kernel_rfl
theorem ty_tby_34 : tby Tryd.prog 34 = some 32 := by kernel_rfl
theorem ty_isIntT_34 : isIntT Tryd.prog 34 = false := by kernel_rfl
theorem ty_flds_34 : flds Tryd.prog 34 = some [(0, 26), (1, 23)] := by kernel_rfl
theorem ty_tzero_34 : tzero Tryd.prog 34 = some [(.int .u64 0), (.slice none 0 0)] := by kernel_rfl
theorem ty_fldO_34_0 : fldO Tryd.prog 34 0 = some 0 := by kernel_rfl
theorem ty_fldT_34_0 : fldT Tryd.prog 34 0 = some (26, 0) := by kernel_rfl
theorem ty_fldO_34_1 : fldO Tryd.prog 34 1 = some 1 := by kernel_rfl
theorem ty_fldT_34_1 : fldT Tryd.prog 34 1 = some (23, 1) := by kernel_rfl
theorem ty_tsz_35 : tsz Tryd.prog 35 = some 1 := by kernel_rfl
theorem ty_tagg_35 : tagg Tryd.prog 35 = some false := by kernel_rfl
theorem ty_hasU_35 : hasU Tryd.prog 35 = true := by kernel_rfl
theorem ty_tby_35 : tby Tryd.prog 35 = some 0 := by kernel_rfl
theorem ty_isIntT_35 : isIntT Tryd.prog 35 = false := by kernel_rfl
theorem ty_tsz_36 : tsz Tryd.prog 36 = some 1 := by kernel_rfl
theorem ty_tagg_36 : tagg Tryd.prog 36 = some false := by kernel_rfl
theorem ty_hasU_36 : hasU Tryd.prog 36 = true := by kernel_rfl
theorem ty_tby_36 : tby Tryd.prog 36 = some 8 := by kernel_rfl
theorem ty_isIntT_36 : isIntT Tryd.prog 36 = false := by kernel_rfl
theorem ty_tzero_36 : tzero Tryd.prog 36 = some [.nilFunc] := by kernel_rfl
theorem ty_tsz_37 : tsz Tryd.prog 37 = some 1 := by kernel_rfl
theorem ty_tagg_37 : tagg Tryd.prog 37 = some false := by kernel_rfl
theorem ty_hasU_37 : hasU Tryd.prog 37 = true := by kernel_rfl
theorem ty_tby_37 : tby Tryd.prog 37 = some 8 := by kernel_rfl
theorem ty_isIntT_37 : isIntT Tryd.prog 37 = false := by kernel_rfl
theorem ty_tzero_37 : tzero Tryd.prog 37 = some [.nilFunc] := by kernel_rfl
theorem ty_tsz_38 : tsz Tryd.prog 38 = some 1 := by kernel_rfl
theorem ty_tagg_38 : tagg Tryd.prog 38 = some false := by kernel_rfl
theorem ty_hasU_38 : hasU Tryd.prog 38 = true := by kernel_rfl
theorem ty_tby_38 : tby Tryd.prog 38 = some 8 := by kernel_rfl
theorem ty_isIntT_38 : isIntT Tryd.prog 38 = false := by kernel_rfl
theorem ty_tzero_38 : tzero Tryd.prog 38 = some [.nilFunc] := by kernel_rfl
theorem ty_tsz_39 : tsz Tryd.prog 39 = some 1 := by kernel_rfl
theorem ty_tagg_39 : tagg Tryd.prog 39 = some false := by kernel_rfl
theorem ty_hasU_39 : hasU Tryd.prog 39 = true := by kernel_rfl
theorem ty_tby_39 : tby Tryd.prog 39 = some 0 := by kernel_rfl
theorem ty_isIntT_39 : isIntT Tryd.prog 39 = false := by kernel_rfl
theorem ty_tsz_40 : tsz Tryd.prog 40 = some 1 := by kernel_rfl
theorem ty_tagg_40 : tagg Tryd.prog 40 = some false := by kernel_rfl
theorem ty_hasU_40 : hasU Tryd.prog 40 = true := by kernel_rfl
theorem ty_tby_40 : tby Tryd.prog 40 = some 8 := by kernel_rfl
theorem ty_isIntT_40 : isIntT Tryd.prog 40 = false := by kernel_rfl
theorem ty_tzero_40 : tzero Tryd.prog 40 = some [.nilFunc] := by kernel_rfl
theorem ty_tsz_41 : tsz Tryd.prog 41 = some 1 := by kernel_rfl
theorem ty_tagg_41 : tagg Tryd.prog 41 = some false := by kernel_rfl
theorem ty_hasU_41 : hasU Tryd.prog 41 = true := by kernel_rfl
theorem ty_tby_41 : tby Tryd.prog 41 = some 8 := by kernel_rfl
theorem ty_isIntT_41 : isIntT Tryd.prog 41 = false := by kernel_rfl
theorem ty_tzero_41 : tzero Tryd.prog 41 = some [.nilFunc] := by kernel_rfl
theorem ty_tsz_42 : tsz Tryd.prog 42 = some 1 := by kernel_rfl
theorem ty_tagg_42 : tagg Tryd.prog 42 = some false := by kernel_rfl
theorem ty_hasU_42 : hasU Tryd.prog 42 = true := by kernel_rfl
theorem ty_tby_42 : tby Tryd.prog 42 = some 8 := by kernel_rfl
theorem ty_isIntT_42 : isIntT Tryd.prog 42 = false := by kernel_rfl
theorem ty_tzero_42 : tzero Tryd.prog 42 = some [.nilFunc] := by kernel_rfl
theorem ty_tsz_43 : tsz Tryd.prog 43 = some 1 := by kernel_rfl
theorem ty_tagg_43 : tagg Tryd.prog 43 = some false := by kernel_rfl
theorem ty_hasU_43 : hasU Tryd.prog 43 = true := by kernel_rfl
theorem ty_tby_43 : tby Tryd.prog 43 = some 0 := by kernel_rfl
theorem ty_isIntT_43 : isIntT Tryd.prog 43 = false := by kernel_rfl
theorem ty_tsz_44 : tsz Tryd.prog 44 = some 1 := by kernel_rfl
theorem ty_tagg_44 : tagg Tryd.prog 44 = some false := by kernel_rfl
theorem ty_hasU_44 : hasU Tryd.prog 44 = true := by kernel_rfl
theorem ty_tby_44 : tby Tryd.prog 44 = some 8 := by kernel_rfl
theorem ty_isIntT_44 : isIntT Tryd.prog 44 = false := by kernel_rfl
theorem ty_tzero_44 : tzero Tryd.prog 44 = some [.nilFunc] := by kernel_rfl
theorem ty_tsz_45 : tsz Tryd.prog 45 = some 1 := by kernel_rfl
theorem ty_tagg_45 : tagg Tryd.prog 45 = some false := by kernel_rfl
theorem ty_hasU_45 : hasU Tryd.prog 45 = true := by kernel_rfl
theorem ty_tby_45 : tby Tryd.prog 45 = some 8 := by kernel_rfl
theorem ty_isIntT_45 : isIntT Tryd.prog 45 = false := by kernel_rfl
theorem ty_tzero_45 : tzero Tryd.prog 45 = some [.nilFunc] := by kernel_rfl
theorem ty_tsz_46 : tsz Tryd.prog 46 = some 1 := by kernel_rfl
theorem ty_tagg_46 : tagg Tryd.prog 46 = some false := by kernel_rfl
theorem ty_hasU_46 : hasU Tryd.prog 46 = true := by kernel_rfl
theorem ty_tby_46 : tby Tryd.prog 46 = some 8 := by kernel_rfl
theorem ty_isIntT_46 : isIntT Tryd.prog 46 = false := by kernel_rfl
theorem ty_tzero_46 : tzero Tryd.prog 46 = some [.nilFunc] := by kernel_rfl
theorem ty_tsz_47 : tsz Tryd.prog 47 = some 1 := by kernel_rfl
theorem ty_tagg_47 : tagg Tryd.prog 47 = some false := by kernel_rfl
theorem ty_hasU_47 : hasU Tryd.prog 47 = true := by kernel_rfl
theorem ty_tby_47 : tby Tryd.prog 47 = some 8 := by kernel_rfl
theorem ty_isIntT_47 : isIntT Tryd.prog 47 = false := by kernel_rfl
theorem ty_tzero_47 : tzero Tryd.prog 47 = some [.nilFunc] := by kernel_rfl
theorem ty_tsz_48 : tsz Tryd.prog 48 = some 1 := by kernel_rfl
theorem ty_tagg_48 : tagg Tryd.prog 48 = some false := by kernel_rfl
theorem ty_hasU_48 : hasU Tryd.prog 48 = true := by kernel_rfl
theorem ty_tby_48 : tby Tryd.prog 48 = some 8 := by kernel_rfl
theorem ty_isIntT_48 : isIntT Tryd.prog 48 = false := by kernel_rfl
theorem ty_tzero_48 : tzero Tryd.prog 48 = some [.nilFunc] := by kernel_rfl
theorem ty_tsz_49 : tsz Tryd.prog 49 = some 1 := by kernel_rfl
theorem ty_tagg_49 : tagg Tryd.prog 49 = some false := by kernel_rfl
theorem ty_hasU_49 : hasU Tryd.prog 49 = true := by kernel_rfl
theorem ty_tby_49 : tby Tryd.prog 49 = some 8 := by kernel_rfl
theorem ty_isIntT_49 : isIntT Tryd.prog 49 = false := by kernel_rfl
theorem ty_tzero_49 : tzero Tryd.prog 49 = some [.nilFunc] := by kernel_rfl
theorem ty_tsz_50 : tsz Tryd.prog 50 = some 1 := by kernel_rfl
theorem ty_tagg_50 : tagg Tryd.prog 50 = some false := by kernel_rfl
theorem ty_hasU_50 : hasU Tryd.prog 50 = true := by kernel_rfl
theorem ty_tby_50 : tby Tryd.prog 50 = some 8 := by kernel_rfl
theorem ty_isIntT_50 : isIntT Tryd.prog 50 = false := by kernel_rfl
theorem ty_tzero_50 : tzero Tryd.prog 50 = some [.nilFunc] := by kernel_rfl
theorem ty_tsz_51 : tsz Tryd.prog 51 = some 1 := by kernel_rfl
theorem ty_tagg_51 : tagg Tryd.prog 51 = some false := by kernel_rfl
theorem ty_slE_51 : slE Tryd.prog 51 = some 3 := by kernel_rfl
theorem ty_slS_51 : slS Tryd.prog 51 = some 1 := by kernel_rfl
theorem ty_hasU_51 : hasU Tryd.prog 51 = true := by kernel_rfl
theorem ty_tby_51 : tby Tryd.prog 51 = some 24 := by kernel_rfl
theorem ty_isIntT_51 : isIntT Tryd.prog 51 = false := by kernel_rfl
theorem ty_tzero_51 : tzero Tryd.prog 51 = some [(.slice none 0 0)] := by kernel_rfl
theorem ty_tsz_52 : tsz Tryd.prog 52 = some 1 := by kernel_rfl
theorem ty_tagg_52 : tagg Tryd.prog 52 = some false := by kernel_rfl
theorem ty_hasU_52 : hasU Tryd.prog 52 = true := by kernel_rfl
theorem ty_tby_52 : tby Tryd.prog 52 = some 8 := by kernel_rfl
theorem ty_isIntT_52 : isIntT Tryd.prog 52 = false := by kernel_rfl
theorem ty_tzero_52 : tzero Tryd.prog 52 = some [.nilFunc] := by kernel_rfl
theorem ty_tsz_53 : tsz Tryd.prog 53 = some 1 := by kernel_rfl
theorem ty_tagg_53 : tagg Tryd.prog 53 = some false := by kernel_rfl
theorem ty_slE_53 : slE Tryd.prog 53 = some 60 := by kernel_rfl
theorem ty_slS_53 : slS Tryd.prog 53 = some 6 := by kernel_rfl
theorem ty_hasU_53 : hasU Tryd.prog 53 = true := by kernel_rfl
theorem ty_tby_53 : tby Tryd.prog 53 = some 24 := by kernel_rfl
theorem ty_isIntT_53 : isIntT Tryd.prog 53 = false := by kernel_rfl
theorem ty_tzero_53 : tzero Tryd.prog 53 = some [(.slice none 0 0)] := by kernel_rfl
theorem ty_tsz_54 : tsz Tryd.prog 54 = some 1 := by kernel_rfl
theorem ty_tagg_54 : tagg Tryd.prog 54 = some false := by kernel_rfl
theorem ty_hasU_54 : hasU Tryd.prog 54 = true := by kernel_rfl
theorem ty_tby_54 : tby Tryd.prog 54 = some 8 := by kernel_rfl
theorem ty_isIntT_54 : isIntT Tryd.prog 54 = false := by kernel_rfl
theorem ty_tzero_54 : tzero Tryd.prog 54 = some [(.map none)] := by kernel_rfl
theorem ty_tsz_55 : tsz Tryd.prog 55 = some 1 := by kernel_rfl
theorem ty_tagg_55 : tagg Tryd.prog 55 = some false := by kernel_rfl
theorem ty_hasU_55 : hasU Tryd.prog 55 = true := by kernel_rfl
theorem ty_tby_55 : tby Tryd.prog 55 = some 0 := by kernel_rfl
theorem ty_isIntT_55 : isIntT Tryd.prog 55 = false := by kernel_rfl
theorem ty_tsz_56 : tsz Tryd.prog 56 = some 1 := by kernel_rfl
theorem ty_tagg_56 : tagg Tryd.prog 56 = some false := by kernel_rfl
theorem ty_hasU_56 : hasU Tryd.prog 56 = true := by kernel_rfl
theorem ty_tby_56 : tby Tryd.prog 56 = some 8 := by kernel_rfl
theorem ty_isIntT_56 : isIntT Tryd.prog 56 = false := by kernel_rfl
theorem ty_tzero_56 : tzero Tryd.prog 56 = some [.nilFunc] := by kernel_rfl
theorem ty_tsz_57 : tsz Tryd.prog 57 = some 1 := by kernel_rfl
theorem ty_tagg_57 : tagg Tryd.prog 57 = some false := by kernel_rfl
theorem ty_isFlt_57 : isFlt Tryd.prog 57 = true := by kernel_rfl
theorem ty_hasU_57 : hasU Tryd.prog 57 = true := by kernel_rfl
theorem ty_tby_57 : tby Tryd.prog 57 = some 8 := by kernel_rfl
theorem ty_isIntT_57 : isIntT Tryd.prog 57 = false := by kernel_rfl
theorem ty_tzero_57 : tzero Tryd.prog 57 = some [(.float .f64 0)] := by kernel_rfl
theorem ty_tsz_58 : tsz Tryd.prog 58 = some 1 := by kernel_rfl
theorem ty_tagg_58 : tagg Tryd.prog 58 = some false := by kernel_rfl
theorem ty_intK_58 : intK Tryd.prog 58 = some .u32 := by kernel_rfl
theorem ty_hasU_58 : hasU Tryd.prog 58 = true := by kernel_rfl
theorem ty_tby_58 : tby Tryd.prog 58 = some 4 := by kernel_rfl
theorem ty_tzero_58 : tzero Tryd.prog 58 = some [(.int .u32 0)] := by kernel_rfl
theorem ty_tsz_59 : tsz Tryd.prog 59 = some 6 := by kernel_rfl
theorem ty_tagg_59 : tagg Tryd.prog 59 = some true := by kernel_rfl
theorem ty_arE_59 : arE Tryd.prog 59 = none := by kernel_rfl
theorem ty_arS_59 : arS Tryd.prog 59 = none := by kernel_rfl
theorem ty_hasU_59 : hasU Tryd.prog 59 = true := by kernel_rfl
theorem ty_stPl_59 : stPl Tryd.prog 59 = some [(0, 1), (1, 1), (2, 1), (3, 1), (4, 1), (5, 1)] := by kernel_rfl
theorem ty_tby_59 : tby Tryd.prog 59 = some 56 := by kernel_rfl
theorem ty_isIntT_59 : isIntT Tryd.prog 59 = false := by kernel_rfl
theorem ty_flds_59 : flds Tryd.prog 59 = some [(0, 9), (1, 57), (2, 58), (3, 3), (4, 3), (5, 3)] := by kernel_rfl
theorem ty_tzero_59 : tzero Tryd.prog 59 = some [(.string ByteArray.empty), (.float .f64 0), (.int .u32 0), (.int .i64 0), (.int .i64 0), (.int .i64 0)] := by kernel_rfl
theorem ty_fldO_59_0 : fldO Tryd.prog 59 0 = some 0 := by kernel_rfl
theorem ty_fldT_59_0 : fldT Tryd.prog 59 0 = some (9, 0) := by kernel_rfl
theorem ty_fldO_59_1 : fldO Tryd.prog 59 1 = some 1 := by kernel_rfl
theorem ty_fldT_59_1 : fldT Tryd.prog 59 1 = some (57, 1) := by kernel_rfl
theorem ty_fldO_59_2 : fldO Tryd.prog 59 2 = some 2 := by kernel_rfl
theorem ty_fldT_59_2 : fldT Tryd.prog 59 2 = some (58, 2) := by kernel_rfl
theorem ty_fldO_59_3 : fldO Tryd.prog 59 3 = some 3 := by kernel_rfl
theorem ty_fldT_59_3 : fldT Tryd.prog 59 3 = some (3, 3) := by kernel_rfl
theorem ty_fldO_59_4 : fldO Tryd.prog 59 4 = some 4 := by kernel_rfl
theorem ty_fldT_59_4 : fldT Tryd.prog 59 4 = some (3, 4) := by kernel_rfl
theorem ty_fldO_59_5 : fldO Tryd.prog 59 5 = some 5 := by kernel_rfl
theorem ty_fldT_59_5 : fldT Tryd.prog 59 5 = some (3, 5) := by kernel_rfl
theorem ty_tsz_60 : tsz Tryd.prog 60 = some 6 := by kernel_rfl
theorem ty_tagg_60 : tagg Tryd.prog 60 = some true := by kernel_rfl
theorem ty_arE_60 : arE Tryd.prog 60 = none := by kernel_rfl
theorem ty_arS_60 : arS Tryd.prog 60 = none := by kernel_rfl
theorem ty_hasU_60 : hasU Tryd.prog 60 = true := by kernel_rfl
theorem ty_stPl_60 : stPl Tryd.prog 60 = some [(0, 1), (1, 1), (2, 1), (3, 1), (4, 1), (5, 1)] := by kernel_rfl
theorem ty_tby_60 : tby Tryd.prog 60 = some 56 := by kernel_rfl
theorem ty_isIntT_60 : isIntT Tryd.prog 60 = false := by kernel_rfl
theorem ty_flds_60 : flds Tryd.prog 60 = some [(0, 9), (1, 57), (2, 58), (3, 3), (4, 3), (5, 3)] := by kernel_rfl
theorem ty_tzero_60 : tzero Tryd.prog 60 = some [(.string ByteArray.empty), (.float .f64 0), (.int .u32 0), (.int .i64 0), (.int .i64 0), (.int .i64 0)] := by kernel_rfl
theorem ty_fldO_60_0 : fldO Tryd.prog 60 0 = some 0 := by kernel_rfl
theorem ty_fldT_60_0 : fldT Tryd.prog 60 0 = some (9, 0) := by kernel_rfl
theorem ty_fldO_60_1 : fldO Tryd.prog 60 1 = some 1 := by kernel_rfl
theorem ty_fldT_60_1 : fldT Tryd.prog 60 1 = some (57, 1) := by kernel_rfl
theorem ty_fldO_60_2 : fldO Tryd.prog 60 2 = some 2 := by kernel_rfl
theorem ty_fldT_60_2 : fldT Tryd.prog 60 2 = some (58, 2) := by kernel_rfl
theorem ty_fldO_60_3 : fldO Tryd.prog 60 3 = some 3 := by kernel_rfl
theorem ty_fldT_60_3 : fldT Tryd.prog 60 3 = some (3, 3) := by kernel_rfl
theorem ty_fldO_60_4 : fldO Tryd.prog 60 4 = some 4 := by kernel_rfl
theorem ty_fldT_60_4 : fldT Tryd.prog 60 4 = some (3, 4) := by kernel_rfl
theorem ty_fldO_60_5 : fldO Tryd.prog 60 5 = some 5 := by kernel_rfl
theorem ty_fldT_60_5 : fldT Tryd.prog 60 5 = some (3, 5) := by kernel_rfl
theorem ty_tsz_61 : tsz Tryd.prog 61 = some 1 := by kernel_rfl
theorem ty_tagg_61 : tagg Tryd.prog 61 = some false := by kernel_rfl
theorem ty_hasU_61 : hasU Tryd.prog 61 = true := by kernel_rfl
theorem ty_tby_61 : tby Tryd.prog 61 = some 8 := by kernel_rfl
theorem ty_isIntT_61 : isIntT Tryd.prog 61 = false := by kernel_rfl
theorem ty_tzero_61 : tzero Tryd.prog 61 = some [.nilFunc] := by kernel_rfl
theorem ty_tsz_62 : tsz Tryd.prog 62 = some 1 := by kernel_rfl
theorem ty_tagg_62 : tagg Tryd.prog 62 = some false := by kernel_rfl
theorem ty_hasU_62 : hasU Tryd.prog 62 = true := by kernel_rfl
theorem ty_tby_62 : tby Tryd.prog 62 = some 8 := by kernel_rfl
theorem ty_isIntT_62 : isIntT Tryd.prog 62 = false := by kernel_rfl
theorem ty_tzero_62 : tzero Tryd.prog 62 = some [.nilFunc] := by kernel_rfl
theorem ty_tsz_63 : tsz Tryd.prog 63 = some 1 := by kernel_rfl
theorem ty_tagg_63 : tagg Tryd.prog 63 = some false := by kernel_rfl
theorem ty_hasU_63 : hasU Tryd.prog 63 = true := by kernel_rfl
theorem ty_tby_63 : tby Tryd.prog 63 = some 8 := by kernel_rfl
theorem ty_isIntT_63 : isIntT Tryd.prog 63 = false := by kernel_rfl
theorem ty_tzero_63 : tzero Tryd.prog 63 = some [.nilFunc] := by kernel_rfl
theorem ty_tsz_64 : tsz Tryd.prog 64 = some 1 := by kernel_rfl
theorem ty_tagg_64 : tagg Tryd.prog 64 = some false := by kernel_rfl
theorem ty_hasU_64 : hasU Tryd.prog 64 = true := by kernel_rfl
theorem ty_tby_64 : tby Tryd.prog 64 = some 0 := by kernel_rfl
theorem ty_isIntT_64 : isIntT Tryd.prog 64 = false := by kernel_rfl
theorem ty_tsz_65 : tsz Tryd.prog 65 = some 1 := by kernel_rfl
theorem ty_tagg_65 : tagg Tryd.prog 65 = some false := by kernel_rfl
theorem ty_hasU_65 : hasU Tryd.prog 65 = true := by kernel_rfl
theorem ty_tby_65 : tby Tryd.prog 65 = some 8 := by kernel_rfl
theorem ty_isIntT_65 : isIntT Tryd.prog 65 = false := by kernel_rfl
theorem ty_tzero_65 : tzero Tryd.prog 65 = some [.nilFunc] := by kernel_rfl
theorem ty_tsz_66 : tsz Tryd.prog 66 = some 1 := by kernel_rfl
theorem ty_tagg_66 : tagg Tryd.prog 66 = some false := by kernel_rfl
theorem ty_hasU_66 : hasU Tryd.prog 66 = true := by kernel_rfl
theorem ty_tby_66 : tby Tryd.prog 66 = some 8 := by kernel_rfl
theorem ty_isIntT_66 : isIntT Tryd.prog 66 = false := by kernel_rfl
theorem ty_tzero_66 : tzero Tryd.prog 66 = some [.nilFunc] := by kernel_rfl
theorem ty_tsz_67 : tsz Tryd.prog 67 = some 1 := by kernel_rfl
theorem ty_tagg_67 : tagg Tryd.prog 67 = some false := by kernel_rfl
theorem ty_hasU_67 : hasU Tryd.prog 67 = true := by kernel_rfl
theorem ty_tby_67 : tby Tryd.prog 67 = some 8 := by kernel_rfl
theorem ty_isIntT_67 : isIntT Tryd.prog 67 = false := by kernel_rfl
theorem ty_tzero_67 : tzero Tryd.prog 67 = some [.nilFunc] := by kernel_rfl
theorem ty_tsz_68 : tsz Tryd.prog 68 = some 1 := by kernel_rfl
theorem ty_tagg_68 : tagg Tryd.prog 68 = some false := by kernel_rfl
theorem ty_hasU_68 : hasU Tryd.prog 68 = true := by kernel_rfl
theorem ty_tby_68 : tby Tryd.prog 68 = some 8 := by kernel_rfl
theorem ty_isIntT_68 : isIntT Tryd.prog 68 = false := by kernel_rfl
theorem ty_tzero_68 : tzero Tryd.prog 68 = some [.nilFunc] := by kernel_rfl
theorem ty_tsz_69 : tsz Tryd.prog 69 = some 1 := by kernel_rfl
theorem ty_tagg_69 : tagg Tryd.prog 69 = some false := by kernel_rfl
theorem ty_hasU_69 : hasU Tryd.prog 69 = true := by kernel_rfl
theorem ty_tby_69 : tby Tryd.prog 69 = some 8 := by kernel_rfl
theorem ty_isIntT_69 : isIntT Tryd.prog 69 = false := by kernel_rfl
theorem ty_tzero_69 : tzero Tryd.prog 69 = some [.nilFunc] := by kernel_rfl
theorem ty_tsz_70 : tsz Tryd.prog 70 = some 1 := by kernel_rfl
theorem ty_tagg_70 : tagg Tryd.prog 70 = some false := by kernel_rfl
theorem ty_hasU_70 : hasU Tryd.prog 70 = true := by kernel_rfl
theorem ty_tby_70 : tby Tryd.prog 70 = some 8 := by kernel_rfl
theorem ty_isIntT_70 : isIntT Tryd.prog 70 = false := by kernel_rfl
theorem ty_tzero_70 : tzero Tryd.prog 70 = some [.nilFunc] := by kernel_rfl
theorem ty_tsz_71 : tsz Tryd.prog 71 = some 1 := by kernel_rfl
theorem ty_tagg_71 : tagg Tryd.prog 71 = some false := by kernel_rfl
theorem ty_hasU_71 : hasU Tryd.prog 71 = true := by kernel_rfl
theorem ty_tby_71 : tby Tryd.prog 71 = some 8 := by kernel_rfl
theorem ty_isIntT_71 : isIntT Tryd.prog 71 = false := by kernel_rfl
theorem ty_tzero_71 : tzero Tryd.prog 71 = some [.nilFunc] := by kernel_rfl
theorem ty_tsz_72 : tsz Tryd.prog 72 = some 1 := by kernel_rfl
theorem ty_tagg_72 : tagg Tryd.prog 72 = some false := by kernel_rfl
theorem ty_hasU_72 : hasU Tryd.prog 72 = true := by kernel_rfl
theorem ty_tby_72 : tby Tryd.prog 72 = some 8 := by kernel_rfl
theorem ty_isIntT_72 : isIntT Tryd.prog 72 = false := by kernel_rfl
theorem ty_tzero_72 : tzero Tryd.prog 72 = some [.nilFunc] := by kernel_rfl
theorem ty_tsz_73 : tsz Tryd.prog 73 = some 1 := by kernel_rfl
theorem ty_tagg_73 : tagg Tryd.prog 73 = some false := by kernel_rfl
theorem ty_hasU_73 : hasU Tryd.prog 73 = true := by kernel_rfl
theorem ty_tby_73 : tby Tryd.prog 73 = some 8 := by kernel_rfl
theorem ty_isIntT_73 : isIntT Tryd.prog 73 = false := by kernel_rfl
theorem ty_tzero_73 : tzero Tryd.prog 73 = some [.nilFunc] := by kernel_rfl
theorem ty_tsz_74 : tsz Tryd.prog 74 = some 1 := by kernel_rfl
theorem ty_tagg_74 : tagg Tryd.prog 74 = some false := by kernel_rfl
theorem ty_hasU_74 : hasU Tryd.prog 74 = true := by kernel_rfl
theorem ty_tby_74 : tby Tryd.prog 74 = some 8 := by kernel_rfl
theorem ty_isIntT_74 : isIntT Tryd.prog 74 = false := by kernel_rfl
theorem ty_tzero_74 : tzero Tryd.prog 74 = some [.nilFunc] := by kernel_rfl
theorem ty_tsz_75 : tsz Tryd.prog 75 = some 1 := by kernel_rfl
theorem ty_tagg_75 : tagg Tryd.prog 75 = some false := by kernel_rfl
theorem ty_hasU_75 : hasU Tryd.prog 75 = true := by kernel_rfl
theorem ty_tby_75 : tby Tryd.prog 75 = some 8 := by kernel_rfl
theorem ty_isIntT_75 : isIntT Tryd.prog 75 = false := by kernel_rfl
theorem ty_tzero_75 : tzero Tryd.prog 75 = some [.nilFunc] := by kernel_rfl
theorem ty_tsz_76 : tsz Tryd.prog 76 = some 1 := by kernel_rfl
theorem ty_tagg_76 : tagg Tryd.prog 76 = some false := by kernel_rfl
theorem ty_hasU_76 : hasU Tryd.prog 76 = true := by kernel_rfl
theorem ty_tby_76 : tby Tryd.prog 76 = some 0 := by kernel_rfl
theorem ty_isIntT_76 : isIntT Tryd.prog 76 = false := by kernel_rfl
theorem ty_tsz_77 : tsz Tryd.prog 77 = some 1 := by kernel_rfl
theorem ty_tagg_77 : tagg Tryd.prog 77 = some false := by kernel_rfl
theorem ty_hasU_77 : hasU Tryd.prog 77 = true := by kernel_rfl
theorem ty_tby_77 : tby Tryd.prog 77 = some 8 := by kernel_rfl
theorem ty_isIntT_77 : isIntT Tryd.prog 77 = false := by kernel_rfl
theorem ty_tzero_77 : tzero Tryd.prog 77 = some [.nilFunc] := by kernel_rfl
theorem ty_tsz_78 : tsz Tryd.prog 78 = some 1 := by kernel_rfl
theorem ty_tagg_78 : tagg Tryd.prog 78 = some false := by kernel_rfl
theorem ty_hasU_78 : hasU Tryd.prog 78 = true := by kernel_rfl
theorem ty_tby_78 : tby Tryd.prog 78 = some 8 := by kernel_rfl
theorem ty_isIntT_78 : isIntT Tryd.prog 78 = false := by kernel_rfl
theorem ty_tzero_78 : tzero Tryd.prog 78 = some [.nilFunc] := by kernel_rfl
theorem ty_tsz_79 : tsz Tryd.prog 79 = some 1 := by kernel_rfl
theorem ty_tagg_79 : tagg Tryd.prog 79 = some false := by kernel_rfl
theorem ty_hasU_79 : hasU Tryd.prog 79 = true := by kernel_rfl
theorem ty_tby_79 : tby Tryd.prog 79 = some 8 := by kernel_rfl
theorem ty_isIntT_79 : isIntT Tryd.prog 79 = false := by kernel_rfl
theorem ty_tzero_79 : tzero Tryd.prog 79 = some [.nilFunc] := by kernel_rfl
theorem ty_tsz_80 : tsz Tryd.prog 80 = some 1 := by kernel_rfl
theorem ty_tagg_80 : tagg Tryd.prog 80 = some false := by kernel_rfl
theorem ty_hasU_80 : hasU Tryd.prog 80 = true := by kernel_rfl
theorem ty_tby_80 : tby Tryd.prog 80 = some 8 := by kernel_rfl
theorem ty_isIntT_80 : isIntT Tryd.prog 80 = false := by kernel_rfl
theorem ty_tzero_80 : tzero Tryd.prog 80 = some [.nilFunc] := by kernel_rfl
theorem ty_tsz_81 : tsz Tryd.prog 81 = some 1 := by kernel_rfl
theorem ty_tagg_81 : tagg Tryd.prog 81 = some false := by kernel_rfl
theorem ty_hasU_81 : hasU Tryd.prog 81 = true := by kernel_rfl
theorem ty_tby_81 : tby Tryd.prog 81 = some 8 := by kernel_rfl
theorem ty_isIntT_81 : isIntT Tryd.prog 81 = false := by kernel_rfl
theorem ty_tzero_81 : tzero Tryd.prog 81 = some [.nilFunc] := by kernel_rfl
theorem ty_tsz_82 : tsz Tryd.prog 82 = some 1 := by kernel_rfl
theorem ty_tagg_82 : tagg Tryd.prog 82 = some false := by kernel_rfl
theorem ty_hasU_82 : hasU Tryd.prog 82 = true := by kernel_rfl
theorem ty_tby_82 : tby Tryd.prog 82 = some 8 := by kernel_rfl
theorem ty_isIntT_82 : isIntT Tryd.prog 82 = false := by kernel_rfl
theorem ty_tzero_82 : tzero Tryd.prog 82 = some [.nilFunc] := by kernel_rfl
theorem ty_tsz_83 : tsz Tryd.prog 83 = some 1 := by kernel_rfl
theorem ty_tagg_83 : tagg Tryd.prog 83 = some false := by kernel_rfl
theorem ty_hasU_83 : hasU Tryd.prog 83 = true := by kernel_rfl
theorem ty_tby_83 : tby Tryd.prog 83 = some 8 := by kernel_rfl
theorem ty_isIntT_83 : isIntT Tryd.prog 83 = false := by kernel_rfl
theorem ty_tzero_83 : tzero Tryd.prog 83 = some [.nilFunc] := by kernel_rfl
theorem ty_tsz_84 : tsz Tryd.prog 84 = some 1 := by kernel_rfl
theorem ty_tagg_84 : tagg Tryd.prog 84 = some false := by kernel_rfl
theorem ty_hasU_84 : hasU Tryd.prog 84 = true := by kernel_rfl
theorem ty_tby_84 : tby Tryd.prog 84 = some 8 := by kernel_rfl
theorem ty_isIntT_84 : isIntT Tryd.prog 84 = false := by kernel_rfl
theorem ty_tzero_84 : tzero Tryd.prog 84 = some [.nilFunc] := by kernel_rfl
theorem ty_tsz_85 : tsz Tryd.prog 85 = some 1 := by kernel_rfl
theorem ty_tagg_85 : tagg Tryd.prog 85 = some false := by kernel_rfl
theorem ty_hasU_85 : hasU Tryd.prog 85 = true := by kernel_rfl
theorem ty_tby_85 : tby Tryd.prog 85 = some 0 := by kernel_rfl
theorem ty_isIntT_85 : isIntT Tryd.prog 85 = false := by kernel_rfl
theorem ty_tsz_86 : tsz Tryd.prog 86 = some 1 := by kernel_rfl
theorem ty_tagg_86 : tagg Tryd.prog 86 = some false := by kernel_rfl
theorem ty_hasU_86 : hasU Tryd.prog 86 = true := by kernel_rfl
theorem ty_tby_86 : tby Tryd.prog 86 = some 8 := by kernel_rfl
theorem ty_isIntT_86 : isIntT Tryd.prog 86 = false := by kernel_rfl
theorem ty_tzero_86 : tzero Tryd.prog 86 = some [.nilFunc] := by kernel_rfl
theorem ty_tsz_87 : tsz Tryd.prog 87 = some 1 := by kernel_rfl
theorem ty_tagg_87 : tagg Tryd.prog 87 = some false := by kernel_rfl
theorem ty_hasU_87 : hasU Tryd.prog 87 = true := by kernel_rfl
theorem ty_tby_87 : tby Tryd.prog 87 = some 0 := by kernel_rfl
theorem ty_isIntT_87 : isIntT Tryd.prog 87 = false := by kernel_rfl
theorem ty_tsz_88 : tsz Tryd.prog 88 = some 1 := by kernel_rfl
theorem ty_tagg_88 : tagg Tryd.prog 88 = some false := by kernel_rfl
theorem ty_hasU_88 : hasU Tryd.prog 88 = true := by kernel_rfl
theorem ty_tby_88 : tby Tryd.prog 88 = some 8 := by kernel_rfl
theorem ty_isIntT_88 : isIntT Tryd.prog 88 = false := by kernel_rfl
theorem ty_tzero_88 : tzero Tryd.prog 88 = some [.nilFunc] := by kernel_rfl
theorem ty_tsz_89 : tsz Tryd.prog 89 = some 1 := by kernel_rfl
theorem ty_tagg_89 : tagg Tryd.prog 89 = some false := by kernel_rfl
theorem ty_hasU_89 : hasU Tryd.prog 89 = true := by kernel_rfl
theorem ty_tby_89 : tby Tryd.prog 89 = some 8 := by kernel_rfl
theorem ty_isIntT_89 : isIntT Tryd.prog 89 = false := by kernel_rfl
theorem ty_tzero_89 : tzero Tryd.prog 89 = some [.nilFunc] := by kernel_rfl
theorem ty_tsz_90 : tsz Tryd.prog 90 = some 1 := by kernel_rfl
theorem ty_tagg_90 : tagg Tryd.prog 90 = some false := by kernel_rfl
theorem ty_hasU_90 : hasU Tryd.prog 90 = true := by kernel_rfl
theorem ty_tby_90 : tby Tryd.prog 90 = some 8 := by kernel_rfl
theorem ty_isIntT_90 : isIntT Tryd.prog 90 = false := by kernel_rfl
theorem ty_tzero_90 : tzero Tryd.prog 90 = some [.nilFunc] := by kernel_rfl
theorem ty_tsz_91 : tsz Tryd.prog 91 = some 1 := by kernel_rfl
theorem ty_tagg_91 : tagg Tryd.prog 91 = some false := by kernel_rfl
theorem ty_hasU_91 : hasU Tryd.prog 91 = true := by kernel_rfl
theorem ty_tby_91 : tby Tryd.prog 91 = some 8 := by kernel_rfl
theorem ty_isIntT_91 : isIntT Tryd.prog 91 = false := by kernel_rfl
theorem ty_tzero_91 : tzero Tryd.prog 91 = some [.nilFunc] := by kernel_rfl
theorem ty_tsz_92 : tsz Tryd.prog 92 = some 1 := by kernel_rfl
theorem ty_tagg_92 : tagg Tryd.prog 92 = some false := by kernel_rfl
theorem ty_hasU_92 : hasU Tryd.prog 92 = true := by kernel_rfl
theorem ty_tby_92 : tby Tryd.prog 92 = some 8 := by kernel_rfl
theorem ty_isIntT_92 : isIntT Tryd.prog 92 = false := by kernel_rfl
theorem ty_tzero_92 : tzero Tryd.prog 92 = some [.nilFunc] := by kernel_rfl
theorem ty_tsz_93 : tsz Tryd.prog 93 = some 1 := by kernel_rfl
theorem ty_tagg_93 : tagg Tryd.prog 93 = some false := by kernel_rfl
theorem ty_hasU_93 : hasU Tryd.prog 93 = true := by kernel_rfl
theorem ty_tby_93 : tby Tryd.prog 93 = some 8 := by kernel_rfl
theorem ty_isIntT_93 : isIntT Tryd.prog 93 = false := by kernel_rfl
theorem ty_tzero_93 : tzero Tryd.prog 93 = some [.nilFunc] := by kernel_rfl
theorem ty_tsz_94 : tsz Tryd.prog 94 = some 1 := by kernel_rfl
theorem ty_tagg_94 : tagg Tryd.prog 94 = some false := by kernel_rfl
theorem ty_hasU_94 : hasU Tryd.prog 94 = true := by kernel_rfl
theorem ty_tby_94 : tby Tryd.prog 94 = some 8 := by kernel_rfl
theorem ty_isIntT_94 : isIntT Tryd.prog 94 = false := by kernel_rfl
theorem ty_tzero_94 : tzero Tryd.prog 94 = some [.nilFunc] := by kernel_rfl
theorem ty_tsz_95 : tsz Tryd.prog 95 = some 1 := by kernel_rfl
theorem ty_tagg_95 : tagg Tryd.prog 95 = some false := by kernel_rfl
theorem ty_hasU_95 : hasU Tryd.prog 95 = true := by kernel_rfl
theorem ty_tby_95 : tby Tryd.prog 95 = some 8 := by kernel_rfl
theorem ty_isIntT_95 : isIntT Tryd.prog 95 = false := by kernel_rfl
theorem ty_tzero_95 : tzero Tryd.prog 95 = some [.nilFunc] := by kernel_rfl
theorem ty_tsz_96 : tsz Tryd.prog 96 = some 1 := by kernel_rfl
theorem ty_tagg_96 : tagg Tryd.prog 96 = some false := by kernel_rfl
theorem ty_hasU_96 : hasU Tryd.prog 96 = true := by kernel_rfl
theorem ty_tby_96 : tby Tryd.prog 96 = some 8 := by kernel_rfl
theorem ty_isIntT_96 : isIntT Tryd.prog 96 = false := by kernel_rfl
theorem ty_tzero_96 : tzero Tryd.prog 96 = some [.nilFunc] := by kernel_rfl
theorem ty_tsz_97 : tsz Tryd.prog 97 = some 1 := by kernel_rfl
theorem ty_tagg_97 : tagg Tryd.prog 97 = some false := by kernel_rfl
theorem ty_hasU_97 : hasU Tryd.prog 97 = true := by kernel_rfl
theorem ty_tby_97 : tby Tryd.prog 97 = some 8 := by kernel_rfl
theorem ty_isIntT_97 : isIntT Tryd.prog 97 = false := by kernel_rfl
theorem ty_tzero_97 : tzero Tryd.prog 97 = some [.nilFunc] := by kernel_rfl
theorem ty_tsz_98 : tsz Tryd.prog 98 = some 1 := by kernel_rfl
theorem ty_tagg_98 : tagg Tryd.prog 98 = some false := by kernel_rfl
theorem ty_hasU_98 : hasU Tryd.prog 98 = true := by kernel_rfl
theorem ty_tby_98 : tby Tryd.prog 98 = some 8 := by kernel_rfl
theorem ty_isIntT_98 : isIntT Tryd.prog 98 = false := by kernel_rfl
theorem ty_tzero_98 : tzero Tryd.prog 98 = some [.nilFunc] := by kernel_rfl
theorem ty_tsz_99 : tsz Tryd.prog 99 = some 1 := by kernel_rfl
theorem ty_tagg_99 : tagg Tryd.prog 99 = some false := by kernel_rfl
theorem ty_hasU_99 : hasU Tryd.prog 99 = true := by kernel_rfl
theorem ty_tby_99 : tby Tryd.prog 99 = some 8 := by kernel_rfl
theorem ty_isIntT_99 : isIntT Tryd.prog 99 = false := by kernel_rfl
theorem ty_tzero_99 : tzero Tryd.prog 99 = some [.nilFunc] := by kernel_rfl
theorem ty_tsz_100 : tsz Tryd.prog 100 = some 1 := by kernel_rfl
theorem ty_tagg_100 : tagg Tryd.prog 100 = some false := by kernel_rfl
theorem ty_hasU_100 : hasU Tryd.prog 100 = true := by kernel_rfl
theorem ty_tby_100 : tby Tryd.prog 100 = some 8 := by kernel_rfl
theorem ty_isIntT_100 : isIntT Tryd.prog 100 = false := by kernel_rfl
theorem ty_tzero_100 : tzero Tryd.prog 100 = some [.nilFunc] := by kernel_rfl
theorem ty_tsz_101 : tsz Tryd.prog 101 = some 1 := by kernel_rfl
theorem ty_tagg_101 : tagg Tryd.prog 101 = some false := by kernel_rfl
theorem ty_hasU_101 : hasU Tryd.prog 101 = true := by kernel_rfl
theorem ty_tby_101 : tby Tryd.prog 101 = some 8 := by kernel_rfl
theorem ty_isIntT_101 : isIntT Tryd.prog 101 = false := by kernel_rfl
theorem ty_tzero_101 : tzero Tryd.prog 101 = some [.nilFunc] := by kernel_rfl
theorem ty_tsz_102 : tsz Tryd.prog 102 = some 1 := by kernel_rfl
theorem ty_tagg_102 : tagg Tryd.prog 102 = some false := by kernel_rfl
theorem ty_hasU_102 : hasU Tryd.prog 102 = true := by kernel_rfl
theorem ty_tby_102 : tby Tryd.prog 102 = some 8 := by kernel_rfl
theorem ty_isIntT_102 : isIntT Tryd.prog 102 = false := by kernel_rfl
theorem ty_tzero_102 : tzero Tryd.prog 102 = some [.nilFunc] := by kernel_rfl
theorem ty_tsz_103 : tsz Tryd.prog 103 = some 1 := by kernel_rfl
theorem ty_tagg_103 : tagg Tryd.prog 103 = some false := by kernel_rfl
theorem ty_hasU_103 : hasU Tryd.prog 103 = true := by kernel_rfl
theorem ty_tby_103 : tby Tryd.prog 103 = some 8 := by kernel_rfl
theorem ty_isIntT_103 : isIntT Tryd.prog 103 = false := by kernel_rfl
theorem ty_tzero_103 : tzero Tryd.prog 103 = some [.nilFunc] := by kernel_rfl
theorem ty_tsz_104 : tsz Tryd.prog 104 = some 1 := by kernel_rfl
theorem ty_tagg_104 : tagg Tryd.prog 104 = some false := by kernel_rfl
theorem ty_hasU_104 : hasU Tryd.prog 104 = true := by kernel_rfl
theorem ty_tby_104 : tby Tryd.prog 104 = some 8 := by kernel_rfl
theorem ty_isIntT_104 : isIntT Tryd.prog 104 = false := by kernel_rfl
theorem ty_tzero_104 : tzero Tryd.prog 104 = some [.nilFunc] := by kernel_rfl
theorem ty_tsz_105 : tsz Tryd.prog 105 = some 1 := by kernel_rfl
theorem ty_tagg_105 : tagg Tryd.prog 105 = some false := by kernel_rfl
theorem ty_hasU_105 : hasU Tryd.prog 105 = true := by kernel_rfl
theorem ty_tby_105 : tby Tryd.prog 105 = some 8 := by kernel_rfl
theorem ty_isIntT_105 : isIntT Tryd.prog 105 = false := by kernel_rfl
theorem ty_tzero_105 : tzero Tryd.prog 105 = some [.nilFunc] := by kernel_rfl
theorem ty_tsz_106 : tsz Tryd.prog 106 = some 1 := by kernel_rfl
theorem ty_tagg_106 : tagg Tryd.prog 106 = some false := by kernel_rfl
theorem ty_hasU_106 : hasU Tryd.prog 106 = true := by kernel_rfl
theorem ty_tby_106 : tby Tryd.prog 106 = some 8 := by kernel_rfl
theorem ty_isIntT_106 : isIntT Tryd.prog 106 = false := by kernel_rfl
theorem ty_tzero_106 : tzero Tryd.prog 106 = some [.nilFunc] := by kernel_rfl
theorem ty_tsz_107 : tsz Tryd.prog 107 = some 1 := by kernel_rfl
theorem ty_tagg_107 : tagg Tryd.prog 107 = some false := by kernel_rfl
theorem ty_hasU_107 : hasU Tryd.prog 107 = true := by kernel_rfl
theorem ty_tby_107 : tby Tryd.prog 107 = some 8 := by kernel_rfl
theorem ty_isIntT_107 : isIntT Tryd.prog 107 = false := by kernel_rfl
theorem ty_tzero_107 : tzero Tryd.prog 107 = some [.nilFunc] := by kernel_rfl
theorem ty_tsz_108 : tsz Tryd.prog 108 = some 1 := by kernel_rfl
theorem ty_tagg_108 : tagg Tryd.prog 108 = some false := by kernel_rfl
theorem ty_hasU_108 : hasU Tryd.prog 108 = true := by kernel_rfl
theorem ty_tby_108 : tby Tryd.prog 108 = some 8 := by kernel_rfl
theorem ty_isIntT_108 : isIntT Tryd.prog 108 = false := by kernel_rfl
theorem ty_tzero_108 : tzero Tryd.prog 108 = some [.nilFunc] := by kernel_rfl
theorem ty_tsz_109 : tsz Tryd.prog 109 = some 1 := by kernel_rfl
theorem ty_tagg_109 : tagg Tryd.prog 109 = some false := by kernel_rfl
theorem ty_hasU_109 : hasU Tryd.prog 109 = true := by kernel_rfl
theorem ty_tby_109 : tby Tryd.prog 109 = some 8 := by kernel_rfl
theorem ty_isIntT_109 : isIntT Tryd.prog 109 = false := by kernel_rfl
theorem ty_tzero_109 : tzero Tryd.prog 109 = some [.nilFunc] := by kernel_rfl
theorem ty_tsz_110 : tsz Tryd.prog 110 = some 1 := by kernel_rfl
theorem ty_tagg_110 : tagg Tryd.prog 110 = some false := by kernel_rfl
theorem ty_hasU_110 : hasU Tryd.prog 110 = true := by kernel_rfl
theorem ty_tby_110 : tby Tryd.prog 110 = some 8 := by kernel_rfl
theorem ty_isIntT_110 : isIntT Tryd.prog 110 = false := by kernel_rfl
theorem ty_tzero_110 : tzero Tryd.prog 110 = some [.nilFunc] := by kernel_rfl
theorem ty_tsz_111 : tsz Tryd.prog 111 = some 1 := by kernel_rfl
theorem ty_tagg_111 : tagg Tryd.prog 111 = some false := by kernel_rfl
theorem ty_hasU_111 : hasU Tryd.prog 111 = true := by kernel_rfl
theorem ty_tby_111 : tby Tryd.prog 111 = some 8 := by kernel_rfl
theorem ty_isIntT_111 : isIntT Tryd.prog 111 = false := by kernel_rfl
theorem ty_tzero_111 : tzero Tryd.prog 111 = some [.nilFunc] := by kernel_rfl
theorem ty_tsz_112 : tsz Tryd.prog 112 = some 1 := by kernel_rfl
theorem ty_tagg_112 : tagg Tryd.prog 112 = some false := by kernel_rfl
theorem ty_hasU_112 : hasU Tryd.prog 112 = true := by kernel_rfl
theorem ty_tby_112 : tby Tryd.prog 112 = some 8 := by kernel_rfl
theorem ty_isIntT_112 : isIntT Tryd.prog 112 = false := by kernel_rfl
theorem ty_tzero_112 : tzero Tryd.prog 112 = some [.nilFunc] := by kernel_rfl
theorem ty_tsz_113 : tsz Tryd.prog 113 = some 1 := by kernel_rfl
theorem ty_tagg_113 : tagg Tryd.prog 113 = some false := by kernel_rfl
theorem ty_hasU_113 : hasU Tryd.prog 113 = true := by kernel_rfl
theorem ty_tby_113 : tby Tryd.prog 113 = some 8 := by kernel_rfl
theorem ty_isIntT_113 : isIntT Tryd.prog 113 = false := by kernel_rfl
theorem ty_tzero_113 : tzero Tryd.prog 113 = some [.nilFunc] := by kernel_rfl
theorem ty_tsz_114 : tsz Tryd.prog 114 = some 1 := by kernel_rfl
theorem ty_tagg_114 : tagg Tryd.prog 114 = some false := by kernel_rfl
theorem ty_hasU_114 : hasU Tryd.prog 114 = true := by kernel_rfl
theorem ty_tby_114 : tby Tryd.prog 114 = some 8 := by kernel_rfl
theorem ty_isIntT_114 : isIntT Tryd.prog 114 = false := by kernel_rfl
theorem ty_tzero_114 : tzero Tryd.prog 114 = some [.nilFunc] := by kernel_rfl
theorem ty_tsz_115 : tsz Tryd.prog 115 = some 1 := by kernel_rfl
theorem ty_tagg_115 : tagg Tryd.prog 115 = some false := by kernel_rfl
theorem ty_hasU_115 : hasU Tryd.prog 115 = true := by kernel_rfl
theorem ty_tby_115 : tby Tryd.prog 115 = some 0 := by kernel_rfl
theorem ty_isIntT_115 : isIntT Tryd.prog 115 = false := by kernel_rfl
theorem ty_tsz_116 : tsz Tryd.prog 116 = some 1 := by kernel_rfl
theorem ty_tagg_116 : tagg Tryd.prog 116 = some false := by kernel_rfl
theorem ty_hasU_116 : hasU Tryd.prog 116 = true := by kernel_rfl
theorem ty_tby_116 : tby Tryd.prog 116 = some 8 := by kernel_rfl
theorem ty_isIntT_116 : isIntT Tryd.prog 116 = false := by kernel_rfl
theorem ty_tzero_116 : tzero Tryd.prog 116 = some [.nilFunc] := by kernel_rfl
theorem ty_tsz_117 : tsz Tryd.prog 117 = some 1 := by kernel_rfl
theorem ty_tagg_117 : tagg Tryd.prog 117 = some false := by kernel_rfl
theorem ty_hasU_117 : hasU Tryd.prog 117 = true := by kernel_rfl
theorem ty_tby_117 : tby Tryd.prog 117 = some 8 := by kernel_rfl
theorem ty_isIntT_117 : isIntT Tryd.prog 117 = false := by kernel_rfl
theorem ty_tzero_117 : tzero Tryd.prog 117 = some [.nilFunc] := by kernel_rfl
theorem ty_tsz_118 : tsz Tryd.prog 118 = some 1 := by kernel_rfl
theorem ty_tagg_118 : tagg Tryd.prog 118 = some false := by kernel_rfl
theorem ty_hasU_118 : hasU Tryd.prog 118 = true := by kernel_rfl
theorem ty_tby_118 : tby Tryd.prog 118 = some 8 := by kernel_rfl
theorem ty_isIntT_118 : isIntT Tryd.prog 118 = false := by kernel_rfl
theorem ty_tzero_118 : tzero Tryd.prog 118 = some [.nilFunc] := by kernel_rfl
theorem ty_tsz_119 : tsz Tryd.prog 119 = some 1 := by kernel_rfl
theorem ty_tagg_119 : tagg Tryd.prog 119 = some false := by kernel_rfl
theorem ty_hasU_119 : hasU Tryd.prog 119 = true := by kernel_rfl
theorem ty_tby_119 : tby Tryd.prog 119 = some 8 := by kernel_rfl
theorem ty_isIntT_119 : isIntT Tryd.prog 119 = false := by kernel_rfl
theorem ty_tzero_119 : tzero Tryd.prog 119 = some [.nilFunc] := by kernel_rfl
theorem ty_tsz_120 : tsz Tryd.prog 120 = some 1 := by kernel_rfl
theorem ty_tagg_120 : tagg Tryd.prog 120 = some false := by kernel_rfl
theorem ty_hasU_120 : hasU Tryd.prog 120 = true := by kernel_rfl
theorem ty_tby_120 : tby Tryd.prog 120 = some 8 := by kernel_rfl
theorem ty_isIntT_120 : isIntT Tryd.prog 120 = false := by kernel_rfl
theorem ty_tzero_120 : tzero Tryd.prog 120 = some [.nilFunc] := by kernel_rfl
theorem ty_tsz_121 : tsz Tryd.prog 121 = some 1 := by kernel_rfl
theorem ty_tagg_121 : tagg Tryd.prog 121 = some false := by kernel_rfl
theorem ty_hasU_121 : hasU Tryd.prog 121 = true := by kernel_rfl
theorem ty_tby_121 : tby Tryd.prog 121 = some 8 := by kernel_rfl
theorem ty_isIntT_121 : isIntT Tryd.prog 121 = false := by kernel_rfl
theorem ty_tzero_121 : tzero Tryd.prog 121 = some [.nilFunc] := by kernel_rfl
theorem ty_tsz_122 : tsz Tryd.prog 122 = some 1 := by kernel_rfl
theorem ty_tagg_122 : tagg Tryd.prog 122 = some false := by kernel_rfl
theorem ty_hasU_122 : hasU Tryd.prog 122 = true := by kernel_rfl
theorem ty_tby_122 : tby Tryd.prog 122 = some 8 := by kernel_rfl
theorem ty_isIntT_122 : isIntT Tryd.prog 122 = false := by kernel_rfl
theorem ty_tzero_122 : tzero Tryd.prog 122 = some [.nilFunc] := by kernel_rfl
theorem ty_tsz_123 : tsz Tryd.prog 123 = some 1 := by kernel_rfl
theorem ty_tagg_123 : tagg Tryd.prog 123 = some false := by kernel_rfl
theorem ty_hasU_123 : hasU Tryd.prog 123 = true := by kernel_rfl
theorem ty_tby_123 : tby Tryd.prog 123 = some 8 := by kernel_rfl
theorem ty_isIntT_123 : isIntT Tryd.prog 123 = false := by kernel_rfl
theorem ty_tzero_123 : tzero Tryd.prog 123 = some [.nilFunc] := by kernel_rfl
theorem ty_tsz_124 : tsz Tryd.prog 124 = some 1 := by kernel_rfl
theorem ty_tagg_124 : tagg Tryd.prog 124 = some false := by kernel_rfl
theorem ty_hasU_124 : hasU Tryd.prog 124 = true := by kernel_rfl
theorem ty_tby_124 : tby Tryd.prog 124 = some 8 := by kernel_rfl
theorem ty_isIntT_124 : isIntT Tryd.prog 124 = false := by kernel_rfl
theorem ty_tzero_124 : tzero Tryd.prog 124 = some [.nilFunc] := by kernel_rfl
theorem ty_tsz_125 : tsz Tryd.prog 125 = some 1 := by kernel_rfl
theorem ty_tagg_125 : tagg Tryd.prog 125 = some false := by kernel_rfl
theorem ty_hasU_125 : hasU Tryd.prog 125 = true := by kernel_rfl
theorem ty_tby_125 : tby Tryd.prog 125 = some 8 := by kernel_rfl
theorem ty_isIntT_125 : isIntT Tryd.prog 125 = false := by kernel_rfl
theorem ty_tzero_125 : tzero Tryd.prog 125 = some [.nilFunc] := by kernel_rfl
theorem ty_tsz_126 : tsz Tryd.prog 126 = some 1 := by kernel_rfl
theorem ty_tagg_126 : tagg Tryd.prog 126 = some false := by kernel_rfl
theorem ty_hasU_126 : hasU Tryd.prog 126 = true := by kernel_rfl
theorem ty_tby_126 : tby Tryd.prog 126 = some 8 := by kernel_rfl
theorem ty_isIntT_126 : isIntT Tryd.prog 126 = false := by kernel_rfl
theorem ty_tzero_126 : tzero Tryd.prog 126 = some [.nilFunc] := by kernel_rfl
theorem ty_tsz_127 : tsz Tryd.prog 127 = some 1 := by kernel_rfl
theorem ty_tagg_127 : tagg Tryd.prog 127 = some false := by kernel_rfl
theorem ty_hasU_127 : hasU Tryd.prog 127 = true := by kernel_rfl
theorem ty_tby_127 : tby Tryd.prog 127 = some 8 := by kernel_rfl
theorem ty_isIntT_127 : isIntT Tryd.prog 127 = false := by kernel_rfl
theorem ty_tzero_127 : tzero Tryd.prog 127 = some [.nilFunc] := by kernel_rfl
theorem ty_tsz_128 : tsz Tryd.prog 128 = some 1 := by kernel_rfl
theorem ty_tagg_128 : tagg Tryd.prog 128 = some false := by kernel_rfl
theorem ty_hasU_128 : hasU Tryd.prog 128 = true := by kernel_rfl
theorem ty_tby_128 : tby Tryd.prog 128 = some 8 := by kernel_rfl
theorem ty_isIntT_128 : isIntT Tryd.prog 128 = false := by kernel_rfl
theorem ty_tzero_128 : tzero Tryd.prog 128 = some [.nilFunc] := by kernel_rfl
theorem ty_tsz_129 : tsz Tryd.prog 129 = some 1 := by kernel_rfl
theorem ty_tagg_129 : tagg Tryd.prog 129 = some false := by kernel_rfl
theorem ty_hasU_129 : hasU Tryd.prog 129 = true := by kernel_rfl
theorem ty_tby_129 : tby Tryd.prog 129 = some 8 := by kernel_rfl
theorem ty_isIntT_129 : isIntT Tryd.prog 129 = false := by kernel_rfl
theorem ty_tzero_129 : tzero Tryd.prog 129 = some [(.pointer none)] := by kernel_rfl
theorem ty_tsz_130 : tsz Tryd.prog 130 = some 1 := by kernel_rfl
theorem ty_tagg_130 : tagg Tryd.prog 130 = some false := by kernel_rfl
theorem ty_slE_130 : slE Tryd.prog 130 = some 5 := by kernel_rfl
theorem ty_slS_130 : slS Tryd.prog 130 = some 1 := by kernel_rfl
theorem ty_hasU_130 : hasU Tryd.prog 130 = true := by kernel_rfl
theorem ty_tby_130 : tby Tryd.prog 130 = some 24 := by kernel_rfl
theorem ty_isIntT_130 : isIntT Tryd.prog 130 = false := by kernel_rfl
theorem ty_tzero_130 : tzero Tryd.prog 130 = some [(.slice none 0 0)] := by kernel_rfl
theorem ty_tsz_131 : tsz Tryd.prog 131 = some 2 := by kernel_rfl
theorem ty_tagg_131 : tagg Tryd.prog 131 = some true := by kernel_rfl
theorem ty_arE_131 : arE Tryd.prog 131 = none := by kernel_rfl
theorem ty_arS_131 : arS Tryd.prog 131 = none := by kernel_rfl
theorem ty_hasU_131 : hasU Tryd.prog 131 = true := by kernel_rfl
theorem ty_stPl_131 : stPl Tryd.prog 131 = some [(0, 1), (1, 1)] := by kernel_rfl
theorem ty_tby_131 : tby Tryd.prog 131 = some 32 := by kernel_rfl
theorem ty_isIntT_131 : isIntT Tryd.prog 131 = false := by kernel_rfl
theorem ty_flds_131 : flds Tryd.prog 131 = some [(0, 129), (1, 130)] := by kernel_rfl
theorem ty_tzero_131 : tzero Tryd.prog 131 = some [(.pointer none), (.slice none 0 0)] := by kernel_rfl
theorem ty_fldO_131_0 : fldO Tryd.prog 131 0 = some 0 := by kernel_rfl
theorem ty_fldT_131_0 : fldT Tryd.prog 131 0 = some (129, 0) := by kernel_rfl
theorem ty_fldO_131_1 : fldO Tryd.prog 131 1 = some 1 := by kernel_rfl
theorem ty_fldT_131_1 : fldT Tryd.prog 131 1 = some (130, 1) := by kernel_rfl
theorem ty_tsz_132 : tsz Tryd.prog 132 = some 2 := by kernel_rfl
theorem ty_tagg_132 : tagg Tryd.prog 132 = some true := by kernel_rfl
theorem ty_arE_132 : arE Tryd.prog 132 = none := by kernel_rfl
theorem ty_arS_132 : arS Tryd.prog 132 = none := by kernel_rfl
theorem ty_hasU_132 : hasU Tryd.prog 132 = true := by kernel_rfl
theorem ty_stPl_132 : stPl Tryd.prog 132 = some [(0, 1), (1, 1)] := by kernel_rfl
theorem ty_tby_132 : tby Tryd.prog 132 = some 32 := by kernel_rfl
theorem ty_isIntT_132 : isIntT Tryd.prog 132 = false := by kernel_rfl
theorem ty_flds_132 : flds Tryd.prog 132 = some [(0, 129), (1, 130)] := by kernel_rfl
theorem ty_tzero_132 : tzero Tryd.prog 132 = some [(.pointer none), (.slice none 0 0)] := by kernel_rfl
theorem ty_fldO_132_0 : fldO Tryd.prog 132 0 = some 0 := by kernel_rfl
theorem ty_fldT_132_0 : fldT Tryd.prog 132 0 = some (129, 0) := by kernel_rfl
theorem ty_fldO_132_1 : fldO Tryd.prog 132 1 = some 1 := by kernel_rfl
theorem ty_fldT_132_1 : fldT Tryd.prog 132 1 = some (130, 1) := by kernel_rfl
theorem ty_tsz_133 : tsz Tryd.prog 133 = some 1 := by kernel_rfl
theorem ty_tagg_133 : tagg Tryd.prog 133 = some false := by kernel_rfl
theorem ty_hasU_133 : hasU Tryd.prog 133 = true := by kernel_rfl
theorem ty_tby_133 : tby Tryd.prog 133 = some 8 := by kernel_rfl
theorem ty_isIntT_133 : isIntT Tryd.prog 133 = false := by kernel_rfl
theorem ty_tzero_133 : tzero Tryd.prog 133 = some [.nilFunc] := by kernel_rfl
theorem ty_tsz_134 : tsz Tryd.prog 134 = some 1 := by kernel_rfl
theorem ty_tagg_134 : tagg Tryd.prog 134 = some false := by kernel_rfl
theorem ty_hasU_134 : hasU Tryd.prog 134 = true := by kernel_rfl
theorem ty_tby_134 : tby Tryd.prog 134 = some 16 := by kernel_rfl
theorem ty_isIntT_134 : isIntT Tryd.prog 134 = false := by kernel_rfl
theorem ty_tzero_134 : tzero Tryd.prog 134 = some [.nilIface] := by kernel_rfl
theorem ty_tsz_135 : tsz Tryd.prog 135 = some 1 := by kernel_rfl
theorem ty_tagg_135 : tagg Tryd.prog 135 = some false := by kernel_rfl
theorem ty_hasU_135 : hasU Tryd.prog 135 = true := by kernel_rfl
theorem ty_tby_135 : tby Tryd.prog 135 = some 16 := by kernel_rfl
theorem ty_isIntT_135 : isIntT Tryd.prog 135 = false := by kernel_rfl
theorem ty_tzero_135 : tzero Tryd.prog 135 = some [.nilIface] := by kernel_rfl
theorem ty_tsz_136 : tsz Tryd.prog 136 = some 1 := by kernel_rfl
theorem ty_tagg_136 : tagg Tryd.prog 136 = some false := by kernel_rfl
theorem ty_hasU_136 : hasU Tryd.prog 136 = true := by kernel_rfl
theorem ty_tby_136 : tby Tryd.prog 136 = some 0 := by kernel_rfl
theorem ty_isIntT_136 : isIntT Tryd.prog 136 = false := by kernel_rfl
theorem ty_tsz_137 : tsz Tryd.prog 137 = some 1 := by kernel_rfl
theorem ty_tagg_137 : tagg Tryd.prog 137 = some false := by kernel_rfl
theorem ty_hasU_137 : hasU Tryd.prog 137 = true := by kernel_rfl
theorem ty_tby_137 : tby Tryd.prog 137 = some 8 := by kernel_rfl
theorem ty_isIntT_137 : isIntT Tryd.prog 137 = false := by kernel_rfl
theorem ty_tzero_137 : tzero Tryd.prog 137 = some [.nilFunc] := by kernel_rfl
theorem ty_tsz_138 : tsz Tryd.prog 138 = some 1 := by kernel_rfl
theorem ty_tagg_138 : tagg Tryd.prog 138 = some false := by kernel_rfl
theorem ty_hasU_138 : hasU Tryd.prog 138 = true := by kernel_rfl
theorem ty_tby_138 : tby Tryd.prog 138 = some 8 := by kernel_rfl
theorem ty_isIntT_138 : isIntT Tryd.prog 138 = false := by kernel_rfl
theorem ty_tzero_138 : tzero Tryd.prog 138 = some [.nilFunc] := by kernel_rfl
theorem ty_tsz_139 : tsz Tryd.prog 139 = some 1 := by kernel_rfl
theorem ty_tagg_139 : tagg Tryd.prog 139 = some false := by kernel_rfl
theorem ty_intK_139 : intK Tryd.prog 139 = some .u64 := by kernel_rfl
theorem ty_hasU_139 : hasU Tryd.prog 139 = true := by kernel_rfl
theorem ty_tby_139 : tby Tryd.prog 139 = some 8 := by kernel_rfl
theorem ty_tzero_139 : tzero Tryd.prog 139 = some [(.int .u64 0)] := by kernel_rfl
theorem ty_tsz_140 : tsz Tryd.prog 140 = some 1 := by kernel_rfl
theorem ty_tagg_140 : tagg Tryd.prog 140 = some false := by kernel_rfl
theorem ty_hasU_140 : hasU Tryd.prog 140 = true := by kernel_rfl
theorem ty_tby_140 : tby Tryd.prog 140 = some 8 := by kernel_rfl
theorem ty_isIntT_140 : isIntT Tryd.prog 140 = false := by kernel_rfl
theorem ty_tzero_140 : tzero Tryd.prog 140 = some [.nilFunc] := by kernel_rfl
theorem ty_tsz_141 : tsz Tryd.prog 141 = some 1 := by kernel_rfl
theorem ty_tagg_141 : tagg Tryd.prog 141 = some false := by kernel_rfl
theorem ty_hasU_141 : hasU Tryd.prog 141 = true := by kernel_rfl
theorem ty_tby_141 : tby Tryd.prog 141 = some 8 := by kernel_rfl
theorem ty_isIntT_141 : isIntT Tryd.prog 141 = false := by kernel_rfl
theorem ty_tzero_141 : tzero Tryd.prog 141 = some [.nilFunc] := by kernel_rfl
theorem ty_tsz_142 : tsz Tryd.prog 142 = some 1 := by kernel_rfl
theorem ty_tagg_142 : tagg Tryd.prog 142 = some false := by kernel_rfl
theorem ty_hasU_142 : hasU Tryd.prog 142 = true := by kernel_rfl
theorem ty_tby_142 : tby Tryd.prog 142 = some 8 := by kernel_rfl
theorem ty_isIntT_142 : isIntT Tryd.prog 142 = false := by kernel_rfl
theorem ty_tzero_142 : tzero Tryd.prog 142 = some [.nilFunc] := by kernel_rfl
theorem ty_tsz_143 : tsz Tryd.prog 143 = some 1 := by kernel_rfl
theorem ty_tagg_143 : tagg Tryd.prog 143 = some false := by kernel_rfl
theorem ty_hasU_143 : hasU Tryd.prog 143 = true := by kernel_rfl
theorem ty_tby_143 : tby Tryd.prog 143 = some 0 := by kernel_rfl
theorem ty_isIntT_143 : isIntT Tryd.prog 143 = false := by kernel_rfl
theorem ty_tsz_144 : tsz Tryd.prog 144 = some 1 := by kernel_rfl
theorem ty_tagg_144 : tagg Tryd.prog 144 = some false := by kernel_rfl
theorem ty_hasU_144 : hasU Tryd.prog 144 = true := by kernel_rfl
theorem ty_tby_144 : tby Tryd.prog 144 = some 8 := by kernel_rfl
theorem ty_isIntT_144 : isIntT Tryd.prog 144 = false := by kernel_rfl
theorem ty_tzero_144 : tzero Tryd.prog 144 = some [.nilFunc] := by kernel_rfl
theorem ty_tsz_145 : tsz Tryd.prog 145 = some 1 := by kernel_rfl
theorem ty_tagg_145 : tagg Tryd.prog 145 = some false := by kernel_rfl
theorem ty_hasU_145 : hasU Tryd.prog 145 = true := by kernel_rfl
theorem ty_tby_145 : tby Tryd.prog 145 = some 8 := by kernel_rfl
theorem ty_isIntT_145 : isIntT Tryd.prog 145 = false := by kernel_rfl
theorem ty_tzero_145 : tzero Tryd.prog 145 = some [(.pointer none)] := by kernel_rfl
theorem ty_tsz_146 : tsz Tryd.prog 146 = some 1 := by kernel_rfl
theorem ty_tagg_146 : tagg Tryd.prog 146 = some false := by kernel_rfl
theorem ty_hasU_146 : hasU Tryd.prog 146 = true := by kernel_rfl
theorem ty_tby_146 : tby Tryd.prog 146 = some 8 := by kernel_rfl
theorem ty_isIntT_146 : isIntT Tryd.prog 146 = false := by kernel_rfl
theorem ty_tzero_146 : tzero Tryd.prog 146 = some [.nilFunc] := by kernel_rfl
theorem ty_tsz_147 : tsz Tryd.prog 147 = some 1 := by kernel_rfl
theorem ty_tagg_147 : tagg Tryd.prog 147 = some false := by kernel_rfl
theorem ty_hasU_147 : hasU Tryd.prog 147 = true := by kernel_rfl
theorem ty_tby_147 : tby Tryd.prog 147 = some 8 := by kernel_rfl
theorem ty_isIntT_147 : isIntT Tryd.prog 147 = false := by kernel_rfl
theorem ty_tzero_147 : tzero Tryd.prog 147 = some [.nilFunc] := by kernel_rfl
theorem ty_tsz_148 : tsz Tryd.prog 148 = some 1 := by kernel_rfl
theorem ty_tagg_148 : tagg Tryd.prog 148 = some false := by kernel_rfl
theorem ty_hasU_148 : hasU Tryd.prog 148 = true := by kernel_rfl
theorem ty_tby_148 : tby Tryd.prog 148 = some 8 := by kernel_rfl
theorem ty_isIntT_148 : isIntT Tryd.prog 148 = false := by kernel_rfl
theorem ty_tzero_148 : tzero Tryd.prog 148 = some [.nilFunc] := by kernel_rfl
theorem ty_tsz_149 : tsz Tryd.prog 149 = some 1 := by kernel_rfl
theorem ty_tagg_149 : tagg Tryd.prog 149 = some false := by kernel_rfl
theorem ty_hasU_149 : hasU Tryd.prog 149 = true := by kernel_rfl
theorem ty_tby_149 : tby Tryd.prog 149 = some 8 := by kernel_rfl
theorem ty_isIntT_149 : isIntT Tryd.prog 149 = false := by kernel_rfl
theorem ty_tzero_149 : tzero Tryd.prog 149 = some [(.pointer none)] := by kernel_rfl
theorem ty_tsz_150 : tsz Tryd.prog 150 = some 1 := by kernel_rfl
theorem ty_tagg_150 : tagg Tryd.prog 150 = some false := by kernel_rfl
theorem ty_hasU_150 : hasU Tryd.prog 150 = true := by kernel_rfl
theorem ty_tby_150 : tby Tryd.prog 150 = some 8 := by kernel_rfl
theorem ty_isIntT_150 : isIntT Tryd.prog 150 = false := by kernel_rfl
theorem ty_tzero_150 : tzero Tryd.prog 150 = some [.nilFunc] := by kernel_rfl
theorem ty_tsz_151 : tsz Tryd.prog 151 = some 1 := by kernel_rfl
theorem ty_tagg_151 : tagg Tryd.prog 151 = some false := by kernel_rfl
theorem ty_hasU_151 : hasU Tryd.prog 151 = true := by kernel_rfl
theorem ty_tby_151 : tby Tryd.prog 151 = some 8 := by kernel_rfl
theorem ty_isIntT_151 : isIntT Tryd.prog 151 = false := by kernel_rfl
theorem ty_tzero_151 : tzero Tryd.prog 151 = some [.nilFunc] := by kernel_rfl
theorem ty_tsz_152 : tsz Tryd.prog 152 = some 1 := by kernel_rfl
theorem ty_tagg_152 : tagg Tryd.prog 152 = some false := by kernel_rfl
theorem ty_hasU_152 : hasU Tryd.prog 152 = true := by kernel_rfl
theorem ty_tby_152 : tby Tryd.prog 152 = some 8 := by kernel_rfl
theorem ty_isIntT_152 : isIntT Tryd.prog 152 = false := by kernel_rfl
theorem ty_tzero_152 : tzero Tryd.prog 152 = some [.nilFunc] := by kernel_rfl
theorem ty_tsz_153 : tsz Tryd.prog 153 = some 256 := by kernel_rfl
theorem ty_tagg_153 : tagg Tryd.prog 153 = some true := by kernel_rfl
theorem ty_arE_153 : arE Tryd.prog 153 = some (256, 5) := by kernel_rfl
theorem ty_arS_153 : arS Tryd.prog 153 = some (256, 1) := by kernel_rfl
theorem ty_hasU_153 : hasU Tryd.prog 153 = true := by kernel_rfl
theorem ty_tby_153 : tby Tryd.prog 153 = some 256 := by kernel_rfl
theorem ty_isIntT_153 : isIntT Tryd.prog 153 = false := by kernel_rfl
theorem ty_tzero_153 : tzero Tryd.prog 153 = some [(.int .u8 0), (.int .u8 0), (.int .u8 0), (.int .u8 0), (.int .u8 0), (.int .u8 0), (.int .u8 0), (.int .u8 0), (.int .u8 0), (.int .u8 0), (.int .u8 0), (.int .u8 0), (.int .u8 0), (.int .u8 0), (.int .u8 0), (.int .u8 0), (.int .u8 0), (.int .u8 0), (.int .u8 0), (.int .u8 0), (.int .u8 0), (.int .u8 0), (.int .u8 0), (.int .u8 0), (.int .u8 0), (.int .u8 0), (.int .u8 0), (.int .u8 0), (.int .u8 0), (.int .u8 0), (.int .u8 0), (.int .u8 0), (.int .u8 0), (.int .u8 0), (.int .u8 0), (.int .u8 0), (.int .u8 0), (.int .u8 0), (.int .u8 0), (.int .u8 0), (.int .u8 0), (.int .u8 0), (.int .u8 0), (.int .u8 0), (.int .u8 0), (.int .u8 0), (.int .u8 0), (.int .u8 0), (.int .u8 0), (.int .u8 0), (.int .u8 0), (.int .u8 0), (.int .u8 0), (.int .u8 0), (.int .u8 0), (.int .u8 0), (.int .u8 0), (.int .u8 0), (.int .u8 0), (.int .u8 0), (.int .u8 0), (.int .u8 0), (.int .u8 0), (.int .u8 0), (.int .u8 0), (.int .u8 0), (.int .u8 0), (.int .u8 0), (.int .u8 0), (.int .u8 0), (.int .u8 0), (.int .u8 0), (.int .u8 0), (.int .u8 0), (.int .u8 0), (.int .u8 0), (.int .u8 0), (.int .u8 0), (.int .u8 0), (.int .u8 0), (.int .u8 0), (.int .u8 0), (.int .u8 0), (.int .u8 0), (.int .u8 0), (.int .u8 0), (.int .u8 0), (.int .u8 0), (.int .u8 0), (.int .u8 0), (.int .u8 0), (.int .u8 0), (.int .u8 0), (.int .u8 0), (.int .u8 0), (.int .u8 0), (.int .u8 0), (.int .u8 0), (.int .u8 0), (.int .u8 0), (.int .u8 0), (.int .u8 0), (.int .u8 0), (.int .u8 0), (.int .u8 0), (.int .u8 0), (.int .u8 0), (.int .u8 0), (.int .u8 0), (.int .u8 0), (.int .u8 0), (.int .u8 0), (.int .u8 0), (.int .u8 0), (.int .u8 0), (.int .u8 0), (.int .u8 0), (.int .u8 0), (.int .u8 0), (.int .u8 0), (.int .u8 0), (.int .u8 0), (.int .u8 0), (.int .u8 0), (.int .u8 0), (.int .u8 0), (.int .u8 0), (.int .u8 0), (.int .u8 0), (.int .u8 0), (.int .u8 0), (.int .u8 0), (.int .u8 0), (.int .u8 0), (.int .u8 0), (.int .u8 0), (.int .u8 0), (.int .u8 0), (.int .u8 0), (.int .u8 0), (.int .u8 0), (.int .u8 0), (.int .u8 0), (.int .u8 0), (.int .u8 0), (.int .u8 0), (.int .u8 0), (.int .u8 0), (.int .u8 0), (.int .u8 0), (.int .u8 0), (.int .u8 0), (.int .u8 0), (.int .u8 0), (.int .u8 0), (.int .u8 0), (.int .u8 0), (.int .u8 0), (.int .u8 0), (.int .u8 0), (.int .u8 0), (.int .u8 0), (.int .u8 0), (.int .u8 0), (.int .u8 0), (.int .u8 0), (.int .u8 0), (.int .u8 0), (.int .u8 0), (.int .u8 0), (.int .u8 0), (.int .u8 0), (.int .u8 0), (.int .u8 0), (.int .u8 0), (.int .u8 0), (.int .u8 0), (.int .u8 0), (.int .u8 0), (.int .u8 0), (.int .u8 0), (.int .u8 0), (.int .u8 0), (.int .u8 0), (.int .u8 0), (.int .u8 0), (.int .u8 0), (.int .u8 0), (.int .u8 0), (.int .u8 0), (.int .u8 0), (.int .u8 0), (.int .u8 0), (.int .u8 0), (.int .u8 0), (.int .u8 0), (.int .u8 0), (.int .u8 0), (.int .u8 0), (.int .u8 0), (.int .u8 0), (.int .u8 0), (.int .u8 0), (.int .u8 0), (.int .u8 0), (.int .u8 0), (.int .u8 0), (.int .u8 0), (.int .u8 0), (.int .u8 0), (.int .u8 0), (.int .u8 0), (.int .u8 0), (.int .u8 0), (.int .u8 0), (.int .u8 0), (.int .u8 0), (.int .u8 0), (.int .u8 0), (.int .u8 0), (.int .u8 0), (.int .u8 0), (.int .u8 0), (.int .u8 0), (.int .u8 0), (.int .u8 0), (.int .u8 0), (.int .u8 0), (.int .u8 0), (.int .u8 0), (.int .u8 0), (.int .u8 0), (.int .u8 0), (.int .u8 0), (.int .u8 0), (.int .u8 0), (.int .u8 0), (.int .u8 0), (.int .u8 0), (.int .u8 0), (.int .u8 0), (.int .u8 0), (.int .u8 0), (.int .u8 0), (.int .u8 0), (.int .u8 0), (.int .u8 0), (.int .u8 0), (.int .u8 0), (.int .u8 0), (.int .u8 0), (.int .u8 0), (.int .u8 0), (.int .u8 0), (.int .u8 0), (.int .u8 0)] := by kernel_rfl
theorem ty_tsz_154 : tsz Tryd.prog 154 = some 2 := by kernel_rfl
theorem ty_tagg_154 : tagg Tryd.prog 154 = some true := by kernel_rfl
theorem ty_arE_154 : arE Tryd.prog 154 = none := by kernel_rfl
theorem ty_arS_154 : arS Tryd.prog 154 = none := by kernel_rfl
theorem ty_hasU_154 : hasU Tryd.prog 154 = true := by kernel_rfl
theorem ty_stPl_154 : stPl Tryd.prog 154 = some [(0, 1), (1, 1)] := by kernel_rfl
theorem ty_tby_154 : tby Tryd.prog 154 = some 2 := by kernel_rfl
theorem ty_isIntT_154 : isIntT Tryd.prog 154 = false := by kernel_rfl
theorem ty_flds_154 : flds Tryd.prog 154 = some [(0, 5), (1, 5)] := by kernel_rfl
theorem ty_tzero_154 : tzero Tryd.prog 154 = some [(.int .u8 0), (.int .u8 0)] := by kernel_rfl
theorem ty_fldO_154_0 : fldO Tryd.prog 154 0 = some 0 := by kernel_rfl
theorem ty_fldT_154_0 : fldT Tryd.prog 154 0 = some (5, 0) := by kernel_rfl
theorem ty_fldO_154_1 : fldO Tryd.prog 154 1 = some 1 := by kernel_rfl
theorem ty_fldT_154_1 : fldT Tryd.prog 154 1 = some (5, 1) := by kernel_rfl
theorem ty_tsz_155 : tsz Tryd.prog 155 = some 2 := by kernel_rfl
theorem ty_tagg_155 : tagg Tryd.prog 155 = some true := by kernel_rfl
theorem ty_arE_155 : arE Tryd.prog 155 = none := by kernel_rfl
theorem ty_arS_155 : arS Tryd.prog 155 = none := by kernel_rfl
theorem ty_hasU_155 : hasU Tryd.prog 155 = true := by kernel_rfl
theorem ty_stPl_155 : stPl Tryd.prog 155 = some [(0, 1), (1, 1)] := by kernel_rfl
theorem ty_tby_155 : tby Tryd.prog 155 = some 2 := by kernel_rfl
theorem ty_isIntT_155 : isIntT Tryd.prog 155 = false := by kernel_rfl
theorem ty_flds_155 : flds Tryd.prog 155 = some [(0, 5), (1, 5)] := by kernel_rfl
theorem ty_tzero_155 : tzero Tryd.prog 155 = some [(.int .u8 0), (.int .u8 0)] := by kernel_rfl
theorem ty_fldO_155_0 : fldO Tryd.prog 155 0 = some 0 := by kernel_rfl
theorem ty_fldT_155_0 : fldT Tryd.prog 155 0 = some (5, 0) := by kernel_rfl
theorem ty_fldO_155_1 : fldO Tryd.prog 155 1 = some 1 := by kernel_rfl
theorem ty_fldT_155_1 : fldT Tryd.prog 155 1 = some (5, 1) := by kernel_rfl
theorem ty_tsz_156 : tsz Tryd.prog 156 = some 32 := by kernel_rfl
theorem ty_tagg_156 : tagg Tryd.prog 156 = some true := by kernel_rfl
theorem ty_arE_156 : arE Tryd.prog 156 = some (16, 155) := by kernel_rfl
theorem ty_arS_156 : arS Tryd.prog 156 = some (16, 2) := by kernel_rfl
theorem ty_hasU_156 : hasU Tryd.prog 156 = true := by kernel_rfl
theorem ty_tby_156 : tby Tryd.prog 156 = some 32 := by kernel_rfl
theorem ty_isIntT_156 : isIntT Tryd.prog 156 = false := by kernel_rfl
theorem ty_tzero_156 : tzero Tryd.prog 156 = some [(.int .u8 0), (.int .u8 0), (.int .u8 0), (.int .u8 0), (.int .u8 0), (.int .u8 0), (.int .u8 0), (.int .u8 0), (.int .u8 0), (.int .u8 0), (.int .u8 0), (.int .u8 0), (.int .u8 0), (.int .u8 0), (.int .u8 0), (.int .u8 0), (.int .u8 0), (.int .u8 0), (.int .u8 0), (.int .u8 0), (.int .u8 0), (.int .u8 0), (.int .u8 0), (.int .u8 0), (.int .u8 0), (.int .u8 0), (.int .u8 0), (.int .u8 0), (.int .u8 0), (.int .u8 0), (.int .u8 0), (.int .u8 0)] := by kernel_rfl
theorem ty_tsz_157 : tsz Tryd.prog 157 = some 1 := by kernel_rfl
theorem ty_tagg_157 : tagg Tryd.prog 157 = some false := by kernel_rfl
theorem ty_hasU_157 : hasU Tryd.prog 157 = true := by kernel_rfl
theorem ty_tby_157 : tby Tryd.prog 157 = some 0 := by kernel_rfl
theorem ty_isIntT_157 : isIntT Tryd.prog 157 = false := by kernel_rfl
theorem ty_tsz_158 : tsz Tryd.prog 158 = some 1 := by kernel_rfl
theorem ty_tagg_158 : tagg Tryd.prog 158 = some false := by kernel_rfl
theorem ty_hasU_158 : hasU Tryd.prog 158 = true := by kernel_rfl
theorem ty_tby_158 : tby Tryd.prog 158 = some 8 := by kernel_rfl
theorem ty_isIntT_158 : isIntT Tryd.prog 158 = false := by kernel_rfl
theorem ty_tzero_158 : tzero Tryd.prog 158 = some [.nilFunc] := by kernel_rfl
theorem ty_tsz_159 : tsz Tryd.prog 159 = some 4 := by kernel_rfl
theorem ty_tagg_159 : tagg Tryd.prog 159 = some true := by kernel_rfl
theorem ty_arE_159 : arE Tryd.prog 159 = none := by kernel_rfl
theorem ty_arS_159 : arS Tryd.prog 159 = none := by kernel_rfl
theorem ty_hasU_159 : hasU Tryd.prog 159 = true := by kernel_rfl
theorem ty_stPl_159 : stPl Tryd.prog 159 = some [(0, 1), (1, 1), (2, 1), (3, 1)] := by kernel_rfl
theorem ty_tby_159 : tby Tryd.prog 159 = some 40 := by kernel_rfl
theorem ty_isIntT_159 : isIntT Tryd.prog 159 = false := by kernel_rfl
theorem ty_tzero_159 : tzero Tryd.prog 159 = some [(.pointer none), (.pointer none), (.pointer none), (.string ByteArray.empty)] := by kernel_rfl
theorem ty_fldO_159_0 : fldO Tryd.prog 159 0 = some 0 := by kernel_rfl
theorem ty_fldT_159_0 : fldT Tryd.prog 159 0 = some (17, 0) := by kernel_rfl
theorem ty_fldO_159_1 : fldO Tryd.prog 159 1 = some 1 := by kernel_rfl
theorem ty_fldT_159_1 : fldT Tryd.prog 159 1 = some (17, 1) := by kernel_rfl
theorem ty_fldO_159_2 : fldO Tryd.prog 159 2 = some 2 := by kernel_rfl
theorem ty_fldT_159_2 : fldT Tryd.prog 159 2 = some (17, 2) := by kernel_rfl
theorem ty_fldO_159_3 : fldO Tryd.prog 159 3 = some 3 := by kernel_rfl
theorem ty_fldT_159_3 : fldT Tryd.prog 159 3 = some (9, 3) := by kernel_rfl
theorem ty_tsz_160 : tsz Tryd.prog 160 = some 4 := by kernel_rfl
theorem ty_tagg_160 : tagg Tryd.prog 160 = some true := by kernel_rfl
theorem ty_arE_160 : arE Tryd.prog 160 = none := by kernel_rfl
theorem ty_arS_160 : arS Tryd.prog 160 = none := by kernel_rfl
theorem ty_hasU_160 : hasU Tryd.prog 160 = true := by kernel_rfl
theorem ty_stPl_160 : stPl Tryd.prog 160 = some [(0, 1), (1, 1), (2, 1), (3, 1)] := by kernel_rfl
theorem ty_tby_160 : tby Tryd.prog 160 = some 40 := by kernel_rfl
theorem ty_isIntT_160 : isIntT Tryd.prog 160 = false := by kernel_rfl
theorem ty_tzero_160 : tzero Tryd.prog 160 = some [(.pointer none), (.pointer none), (.pointer none), (.string ByteArray.empty)] := by kernel_rfl
theorem ty_fldO_160_0 : fldO Tryd.prog 160 0 = some 0 := by kernel_rfl
theorem ty_fldT_160_0 : fldT Tryd.prog 160 0 = some (17, 0) := by kernel_rfl
theorem ty_fldO_160_1 : fldO Tryd.prog 160 1 = some 1 := by kernel_rfl
theorem ty_fldT_160_1 : fldT Tryd.prog 160 1 = some (17, 1) := by kernel_rfl
theorem ty_fldO_160_2 : fldO Tryd.prog 160 2 = some 2 := by kernel_rfl
theorem ty_fldT_160_2 : fldT Tryd.prog 160 2 = some (17, 2) := by kernel_rfl
theorem ty_fldO_160_3 : fldO Tryd.prog 160 3 = some 3 := by kernel_rfl
theorem ty_fldT_160_3 : fldT Tryd.prog 160 3 = some (9, 3) := by kernel_rfl
theorem ty_tsz_161 : tsz Tryd.prog 161 = some 0 := by kernel_rfl
theorem ty_tagg_161 : tagg Tryd.prog 161 = some true := by kernel_rfl
theorem ty_arE_161 : arE Tryd.prog 161 = some (0, 16) := by kernel_rfl
theorem ty_arS_161 : arS Tryd.prog 161 = some (0, 1) := by kernel_rfl
theorem ty_hasU_161 : hasU Tryd.prog 161 = true := by kernel_rfl
theorem ty_tby_161 : tby Tryd.prog 161 = some 0 := by kernel_rfl
theorem ty_isIntT_161 : isIntT Tryd.prog 161 = false := by kernel_rfl
theorem ty_tzero_161 : tzero Tryd.prog 161 = some [] := by kernel_rfl
theorem ty_tsz_162 : tsz Tryd.prog 162 = some 0 := by kernel_rfl
theorem ty_tagg_162 : tagg Tryd.prog 162 = some true := by kernel_rfl
theorem ty_arE_162 : arE Tryd.prog 162 = none := by kernel_rfl
theorem ty_arS_162 : arS Tryd.prog 162 = none := by kernel_rfl
theorem ty_hasU_162 : hasU Tryd.prog 162 = true := by kernel_rfl
theorem ty_stPl_162 : stPl Tryd.prog 162 = some [(0, 0)] := by kernel_rfl
theorem ty_tby_162 : tby Tryd.prog 162 = some 0 := by kernel_rfl
theorem ty_isIntT_162 : isIntT Tryd.prog 162 = false := by kernel_rfl
theorem ty_tzero_162 : tzero Tryd.prog 162 = some [] := by kernel_rfl
theorem ty_fldT_162_0 : fldT Tryd.prog 162 0 = some (161, 0) := by kernel_rfl
theorem ty_tsz_163 : tsz Tryd.prog 163 = some 0 := by kernel_rfl
theorem ty_tagg_163 : tagg Tryd.prog 163 = some true := by kernel_rfl
theorem ty_arE_163 : arE Tryd.prog 163 = none := by kernel_rfl
theorem ty_arS_163 : arS Tryd.prog 163 = none := by kernel_rfl
theorem ty_hasU_163 : hasU Tryd.prog 163 = true := by kernel_rfl
theorem ty_stPl_163 : stPl Tryd.prog 163 = some [(0, 0)] := by kernel_rfl
theorem ty_tby_163 : tby Tryd.prog 163 = some 0 := by kernel_rfl
theorem ty_isIntT_163 : isIntT Tryd.prog 163 = false := by kernel_rfl
theorem ty_tzero_163 : tzero Tryd.prog 163 = some [] := by kernel_rfl
theorem ty_fldT_163_0 : fldT Tryd.prog 163 0 = some (161, 0) := by kernel_rfl
theorem ty_tsz_164 : tsz Tryd.prog 164 = some 1 := by kernel_rfl
theorem ty_tagg_164 : tagg Tryd.prog 164 = some false := by kernel_rfl
theorem ty_hasU_164 : hasU Tryd.prog 164 = true := by kernel_rfl
theorem ty_tby_164 : tby Tryd.prog 164 = some 8 := by kernel_rfl
theorem ty_isIntT_164 : isIntT Tryd.prog 164 = false := by kernel_rfl
theorem ty_tzero_164 : tzero Tryd.prog 164 = some [.nilFunc] := by kernel_rfl
theorem ty_tsz_165 : tsz Tryd.prog 165 = some 1 := by kernel_rfl
theorem ty_tagg_165 : tagg Tryd.prog 165 = some false := by kernel_rfl
theorem ty_intK_165 : intK Tryd.prog 165 = some .u8 := by kernel_rfl
theorem ty_hasU_165 : hasU Tryd.prog 165 = true := by kernel_rfl
theorem ty_tby_165 : tby Tryd.prog 165 = some 1 := by kernel_rfl
theorem ty_tzero_165 : tzero Tryd.prog 165 = some [(.int .u8 0)] := by kernel_rfl
theorem ty_tsz_166 : tsz Tryd.prog 166 = some 1 := by kernel_rfl
theorem ty_tagg_166 : tagg Tryd.prog 166 = some false := by kernel_rfl
theorem ty_intK_166 : intK Tryd.prog 166 = some .u8 := by kernel_rfl
theorem ty_hasU_166 : hasU Tryd.prog 166 = true := by kernel_rfl
theorem ty_tby_166 : tby Tryd.prog 166 = some 1 := by kernel_rfl
theorem ty_tzero_166 : tzero Tryd.prog 166 = some [(.int .u8 0)] := by kernel_rfl
theorem ty_tsz_167 : tsz Tryd.prog 167 = some 1 := by kernel_rfl
theorem ty_tagg_167 : tagg Tryd.prog 167 = some false := by kernel_rfl
theorem ty_hasU_167 : hasU Tryd.prog 167 = true := by kernel_rfl
theorem ty_tby_167 : tby Tryd.prog 167 = some 8 := by kernel_rfl
theorem ty_isIntT_167 : isIntT Tryd.prog 167 = false := by kernel_rfl
theorem ty_tzero_167 : tzero Tryd.prog 167 = some [.nilFunc] := by kernel_rfl
theorem ty_tsz_168 : tsz Tryd.prog 168 = some 1 := by kernel_rfl
theorem ty_tagg_168 : tagg Tryd.prog 168 = some false := by kernel_rfl
theorem ty_intK_168 : intK Tryd.prog 168 = some .i32 := by kernel_rfl
theorem ty_hasU_168 : hasU Tryd.prog 168 = true := by kernel_rfl
theorem ty_tby_168 : tby Tryd.prog 168 = some 4 := by kernel_rfl
theorem ty_tzero_168 : tzero Tryd.prog 168 = some [(.int .i32 0)] := by kernel_rfl
theorem ty_tsz_169 : tsz Tryd.prog 169 = some 1 := by kernel_rfl
theorem ty_tagg_169 : tagg Tryd.prog 169 = some false := by kernel_rfl
theorem ty_intK_169 : intK Tryd.prog 169 = some .i32 := by kernel_rfl
theorem ty_hasU_169 : hasU Tryd.prog 169 = true := by kernel_rfl
theorem ty_tby_169 : tby Tryd.prog 169 = some 4 := by kernel_rfl
theorem ty_tzero_169 : tzero Tryd.prog 169 = some [(.int .i32 0)] := by kernel_rfl
theorem ty_tsz_170 : tsz Tryd.prog 170 = some 11 := by kernel_rfl
theorem ty_tagg_170 : tagg Tryd.prog 170 = some true := by kernel_rfl
theorem ty_arE_170 : arE Tryd.prog 170 = none := by kernel_rfl
theorem ty_arS_170 : arS Tryd.prog 170 = none := by kernel_rfl
theorem ty_hasU_170 : hasU Tryd.prog 170 = true := by kernel_rfl
theorem ty_stPl_170 : stPl Tryd.prog 170 = some [(0, 1), (1, 1), (2, 1), (3, 1), (4, 1), (5, 1), (6, 1), (7, 1), (8, 1), (9, 1), (10, 1)] := by kernel_rfl
theorem ty_tby_170 : tby Tryd.prog 170 = some 48 := by kernel_rfl
theorem ty_isIntT_170 : isIntT Tryd.prog 170 = false := by kernel_rfl
theorem ty_tzero_170 : tzero Tryd.prog 170 = some [(.int .u64 0), (.int .u64 0), (.int .u32 0), (.int .u8 0), (.int .u8 0), (.int .u8 0), (.int .u8 0), .nilFunc, (.pointer none), (.int .i32 0), (.int .i32 0)] := by kernel_rfl
theorem ty_fldO_170_0 : fldO Tryd.prog 170 0 = some 0 := by kernel_rfl
theorem ty_fldT_170_0 : fldT Tryd.prog 170 0 = some (12, 0) := by kernel_rfl
theorem ty_fldO_170_1 : fldO Tryd.prog 170 1 = some 1 := by kernel_rfl
theorem ty_fldT_170_1 : fldT Tryd.prog 170 1 = some (12, 1) := by kernel_rfl
theorem ty_fldO_170_2 : fldO Tryd.prog 170 2 = some 2 := by kernel_rfl
theorem ty_fldT_170_2 : fldT Tryd.prog 170 2 = some (58, 2) := by kernel_rfl
theorem ty_fldO_170_3 : fldO Tryd.prog 170 3 = some 3 := by kernel_rfl
theorem ty_fldT_170_3 : fldT Tryd.prog 170 3 = some (165, 3) := by kernel_rfl
theorem ty_fldO_170_4 : fldO Tryd.prog 170 4 = some 4 := by kernel_rfl
theorem ty_fldT_170_4 : fldT Tryd.prog 170 4 = some (5, 4) := by kernel_rfl
theorem ty_fldO_170_5 : fldO Tryd.prog 170 5 = some 5 := by kernel_rfl
theorem ty_fldT_170_5 : fldT Tryd.prog 170 5 = some (5, 5) := by kernel_rfl
theorem ty_fldO_170_6 : fldO Tryd.prog 170 6 = some 6 := by kernel_rfl
theorem ty_fldT_170_6 : fldT Tryd.prog 170 6 = some (166, 6) := by kernel_rfl
theorem ty_fldO_170_7 : fldO Tryd.prog 170 7 = some 7 := by kernel_rfl
theorem ty_fldT_170_7 : fldT Tryd.prog 170 7 = some (167, 7) := by kernel_rfl
theorem ty_tsz_171 : tsz Tryd.prog 171 = some 11 := by kernel_rfl
theorem ty_tagg_171 : tagg Tryd.prog 171 = some true := by kernel_rfl
theorem ty_arE_171 : arE Tryd.prog 171 = none := by kernel_rfl
theorem ty_arS_171 : arS Tryd.prog 171 = none := by kernel_rfl
theorem ty_hasU_171 : hasU Tryd.prog 171 = true := by kernel_rfl
theorem ty_stPl_171 : stPl Tryd.prog 171 = some [(0, 1), (1, 1), (2, 1), (3, 1), (4, 1), (5, 1), (6, 1), (7, 1), (8, 1), (9, 1), (10, 1)] := by kernel_rfl
theorem ty_tby_171 : tby Tryd.prog 171 = some 48 := by kernel_rfl
theorem ty_isIntT_171 : isIntT Tryd.prog 171 = false := by kernel_rfl
theorem ty_tzero_171 : tzero Tryd.prog 171 = some [(.int .u64 0), (.int .u64 0), (.int .u32 0), (.int .u8 0), (.int .u8 0), (.int .u8 0), (.int .u8 0), .nilFunc, (.pointer none), (.int .i32 0), (.int .i32 0)] := by kernel_rfl
theorem ty_fldO_171_0 : fldO Tryd.prog 171 0 = some 0 := by kernel_rfl
theorem ty_fldT_171_0 : fldT Tryd.prog 171 0 = some (12, 0) := by kernel_rfl
theorem ty_fldO_171_1 : fldO Tryd.prog 171 1 = some 1 := by kernel_rfl
theorem ty_fldT_171_1 : fldT Tryd.prog 171 1 = some (12, 1) := by kernel_rfl
theorem ty_fldO_171_2 : fldO Tryd.prog 171 2 = some 2 := by kernel_rfl
theorem ty_fldT_171_2 : fldT Tryd.prog 171 2 = some (58, 2) := by kernel_rfl
theorem ty_fldO_171_3 : fldO Tryd.prog 171 3 = some 3 := by kernel_rfl
theorem ty_fldT_171_3 : fldT Tryd.prog 171 3 = some (165, 3) := by kernel_rfl
theorem ty_fldO_171_4 : fldO Tryd.prog 171 4 = some 4 := by kernel_rfl
theorem ty_fldT_171_4 : fldT Tryd.prog 171 4 = some (5, 4) := by kernel_rfl
theorem ty_fldO_171_5 : fldO Tryd.prog 171 5 = some 5 := by kernel_rfl
theorem ty_fldT_171_5 : fldT Tryd.prog 171 5 = some (5, 5) := by kernel_rfl
theorem ty_fldO_171_6 : fldO Tryd.prog 171 6 = some 6 := by kernel_rfl
theorem ty_fldT_171_6 : fldT Tryd.prog 171 6 = some (166, 6) := by kernel_rfl
theorem ty_fldO_171_7 : fldO Tryd.prog 171 7 = some 7 := by kernel_rfl
theorem ty_fldT_171_7 : fldT Tryd.prog 171 7 = some (167, 7) := by kernel_rfl
theorem body_2 : bodyB Tryd.prog 2 = true := by kernel_rfl
theorem body_3 : bodyB Tryd.prog 3 = true := by kernel_rfl
theorem body_4 : bodyB Tryd.prog 4 = true := by kernel_rfl
theorem body_5 : bodyB Tryd.prog 5 = true := by kernel_rfl
theorem body_6 : bodyB Tryd.prog 6 = true := by kernel_rfl
theorem body_7 : bodyB Tryd.prog 7 = true := by kernel_rfl
theorem body_8 : bodyB Tryd.prog 8 = true := by kernel_rfl
theorem body_9 : bodyB Tryd.prog 9 = true := by kernel_rfl
theorem body_10 : bodyB Tryd.prog 10 = true := by kernel_rfl
theorem body_11 : bodyB Tryd.prog 11 = true := by kernel_rfl
theorem body_12 : bodyB Tryd.prog 12 = true := by kernel_rfl
theorem body_13 : bodyB Tryd.prog 13 = true := by kernel_rfl
theorem body_14 : bodyB Tryd.prog 14 = true := by kernel_rfl
theorem body_15 : bodyB Tryd.prog 15 = true := by kernel_rfl
theorem body_16 : bodyB Tryd.prog 16 = true := by kernel_rfl
theorem body_17 : bodyB Tryd.prog 17 = true := by kernel_rfl
theorem body_18 : bodyB Tryd.prog 18 = true := by kernel_rfl
theorem body_19 : bodyB Tryd.prog 19 = true := by kernel_rfl
theorem body_20 : bodyB Tryd.prog 20 = true := by kernel_rfl
theorem body_21 : bodyB Tryd.prog 21 = true := by kernel_rfl
theorem body_22 : bodyB Tryd.prog 22 = true := by kernel_rfl
theorem body_23 : bodyB Tryd.prog 23 = true := by kernel_rfl
theorem body_24 : bodyB Tryd.prog 24 = true := by kernel_rfl
theorem body_25 : bodyB Tryd.prog 25 = true := by kernel_rfl
theorem body_26 : bodyB Tryd.prog 26 = true := by kernel_rfl
theorem body_27 : bodyB Tryd.prog 27 = true := by kernel_rfl
theorem body_28 : bodyB Tryd.prog 28 = true := by kernel_rfl
theorem body_29 : bodyB Tryd.prog 29 = true := by kernel_rfl
theorem body_30 : bodyB Tryd.prog 30 = true := by kernel_rfl
theorem body_31 : bodyB Tryd.prog 31 = true := by kernel_rfl
theorem body_32 : bodyB Tryd.prog 32 = true := by kernel_rfl
theorem body_33 : bodyB Tryd.prog 33 = true := by kernel_rfl
theorem body_34 : bodyB Tryd.prog 34 = true := by kernel_rfl
theorem body_35 : bodyB Tryd.prog 35 = true := by kernel_rfl
theorem body_36 : bodyB Tryd.prog 36 = true := by kernel_rfl
theorem body_37 : bodyB Tryd.prog 37 = true := by kernel_rfl
theorem body_38 : bodyB Tryd.prog 38 = true := by kernel_rfl
theorem body_39 : bodyB Tryd.prog 39 = true := by kernel_rfl
theorem body_40 : bodyB Tryd.prog 40 = true := by kernel_rfl
theorem body_41 : bodyB Tryd.prog 41 = true := by kernel_rfl
theorem body_42 : bodyB Tryd.prog 42 = true := by kernel_rfl
theorem body_43 : bodyB Tryd.prog 43 = true := by kernel_rfl
theorem body_44 : bodyB Tryd.prog 44 = true := by kernel_rfl
theorem body_45 : bodyB Tryd.prog 45 = true := by kernel_rfl
theorem body_46 : bodyB Tryd.prog 46 = true := by kernel_rfl
theorem body_47 : bodyB Tryd.prog 47 = true := by kernel_rfl
theorem body_48 : bodyB Tryd.prog 48 = true := by kernel_rfl
theorem body_49 : bodyB Tryd.prog 49 = true := by kernel_rfl
theorem body_50 : bodyB Tryd.prog 50 = true := by kernel_rfl
theorem body_51 : bodyB Tryd.prog 51 = true := by kernel_rfl
theorem body_52 : bodyB Tryd.prog 52 = true := by kernel_rfl
theorem body_53 : bodyB Tryd.prog 53 = true := by kernel_rfl
theorem body_54 : bodyB Tryd.prog 54 = true := by kernel_rfl
theorem body_55 : bodyB Tryd.prog 55 = true := by kernel_rfl
theorem body_56 : bodyB Tryd.prog 56 = true := by kernel_rfl
theorem body_57 : bodyB Tryd.prog 57 = true := by kernel_rfl
theorem body_58 : bodyB Tryd.prog 58 = true := by kernel_rfl
theorem body_59 : bodyB Tryd.prog 59 = true := by kernel_rfl
theorem body_60 : bodyB Tryd.prog 60 = true := by kernel_rfl
theorem body_61 : bodyB Tryd.prog 61 = true := by kernel_rfl
theorem body_62 : bodyB Tryd.prog 62 = true := by kernel_rfl
theorem body_63 : bodyB Tryd.prog 63 = true := by kernel_rfl
theorem body_64 : bodyB Tryd.prog 64 = true := by kernel_rfl
theorem body_65 : bodyB Tryd.prog 65 = true := by kernel_rfl
theorem body_66 : bodyB Tryd.prog 66 = true := by kernel_rfl
theorem body_67 : bodyB Tryd.prog 67 = true := by kernel_rfl
theorem body_68 : bodyB Tryd.prog 68 = true := by kernel_rfl
theorem body_69 : bodyB Tryd.prog 69 = true := by kernel_rfl
theorem body_70 : bodyB Tryd.prog 70 = true := by kernel_rfl
theorem body_71 : bodyB Tryd.prog 71 = true := by kernel_rfl
theorem body_72 : bodyB Tryd.prog 72 = true := by kernel_rfl
theorem body_73 : bodyB Tryd.prog 73 = true := by kernel_rfl
theorem body_74 : bodyB Tryd.prog 74 = true := by kernel_rfl
theorem body_75 : bodyB Tryd.prog 75 = true := by kernel_rfl
theorem body_76 : bodyB Tryd.prog 76 = true := by kernel_rfl
theorem body_77 : bodyB Tryd.prog 77 = true := by kernel_rfl
theorem body_78 : bodyB Tryd.prog 78 = true := by kernel_rfl
theorem body_79 : bodyB Tryd.prog 79 = true := by kernel_rfl
theorem body_80 : bodyB Tryd.prog 80 = true := by kernel_rfl
theorem body_81 : bodyB Tryd.prog 81 = true := by kernel_rfl
theorem body_82 : bodyB Tryd.prog 82 = true := by kernel_rfl
theorem body_83 : bodyB Tryd.prog 83 = true := by kernel_rfl
theorem body_84 : bodyB Tryd.prog 84 = true := by kernel_rfl
theorem body_85 : bodyB Tryd.prog 85 = true := by kernel_rfl
theorem body_86 : bodyB Tryd.prog 86 = true := by kernel_rfl
theorem body_87 : bodyB Tryd.prog 87 = true := by kernel_rfl
theorem body_88 : bodyB Tryd.prog 88 = true := by kernel_rfl
theorem body_89 : bodyB Tryd.prog 89 = true := by kernel_rfl
theorem body_90 : bodyB Tryd.prog 90 = true := by kernel_rfl
theorem body_91 : bodyB Tryd.prog 91 = true := by kernel_rfl
theorem body_92 : bodyB Tryd.prog 92 = true := by kernel_rfl
theorem body_93 : bodyB Tryd.prog 93 = true := by kernel_rfl
theorem body_94 : bodyB Tryd.prog 94 = true := by kernel_rfl
theorem body_95 : bodyB Tryd.prog 95 = true := by kernel_rfl
theorem body_96 : bodyB Tryd.prog 96 = true := by kernel_rfl
theorem body_97 : bodyB Tryd.prog 97 = true := by kernel_rfl
theorem body_98 : bodyB Tryd.prog 98 = true := by kernel_rfl
theorem body_99 : bodyB Tryd.prog 99 = true := by kernel_rfl
theorem body_100 : bodyB Tryd.prog 100 = true := by kernel_rfl
theorem body_101 : bodyB Tryd.prog 101 = true := by kernel_rfl
theorem body_102 : bodyB Tryd.prog 102 = true := by kernel_rfl
theorem body_103 : bodyB Tryd.prog 103 = true := by kernel_rfl
theorem body_104 : bodyB Tryd.prog 104 = true := by kernel_rfl
theorem body_105 : bodyB Tryd.prog 105 = true := by kernel_rfl
theorem body_106 : bodyB Tryd.prog 106 = true := by kernel_rfl
theorem body_107 : bodyB Tryd.prog 107 = true := by kernel_rfl
theorem body_108 : bodyB Tryd.prog 108 = true := by kernel_rfl
theorem body_109 : bodyB Tryd.prog 109 = true := by kernel_rfl
theorem body_111 : bodyB Tryd.prog 111 = true := by kernel_rfl
theorem body_112 : bodyB Tryd.prog 112 = true := by kernel_rfl
theorem body_113 : bodyB Tryd.prog 113 = true := by kernel_rfl
theorem body_114 : bodyB Tryd.prog 114 = true := by kernel_rfl
theorem body_115 : bodyB Tryd.prog 115 = true := by kernel_rfl
theorem body_116 : bodyB Tryd.prog 116 = true := by kernel_rfl
theorem body_117 : bodyB Tryd.prog 117 = true := by kernel_rfl
theorem body_118 : bodyB Tryd.prog 118 = true := by kernel_rfl
theorem body_120 : bodyB Tryd.prog 120 = true := by kernel_rfl
theorem body_121 : bodyB Tryd.prog 121 = true := by kernel_rfl
theorem body_122 : bodyB Tryd.prog 122 = true := by kernel_rfl
theorem body_123 : bodyB Tryd.prog 123 = true := by kernel_rfl
theorem body_124 : bodyB Tryd.prog 124 = true := by kernel_rfl
theorem body_125 : bodyB Tryd.prog 125 = true := by kernel_rfl
theorem body_126 : bodyB Tryd.prog 126 = true := by kernel_rfl
theorem body_127 : bodyB Tryd.prog 127 = true := by kernel_rfl
theorem body_128 : bodyB Tryd.prog 128 = true := by kernel_rfl
theorem body_129 : bodyB Tryd.prog 129 = true := by kernel_rfl
theorem body_130 : bodyB Tryd.prog 130 = true := by kernel_rfl
theorem body_131 : bodyB Tryd.prog 131 = true := by kernel_rfl
theorem body_132 : bodyB Tryd.prog 132 = true := by kernel_rfl
theorem body_133 : bodyB Tryd.prog 133 = true := by kernel_rfl
theorem body_134 : bodyB Tryd.prog 134 = true := by kernel_rfl
theorem body_135 : bodyB Tryd.prog 135 = true := by kernel_rfl
theorem body_136 : bodyB Tryd.prog 136 = true := by kernel_rfl
theorem body_137 : bodyB Tryd.prog 137 = true := by kernel_rfl
theorem body_138 : bodyB Tryd.prog 138 = true := by kernel_rfl
theorem body_139 : bodyB Tryd.prog 139 = true := by kernel_rfl
theorem body_140 : bodyB Tryd.prog 140 = true := by kernel_rfl
theorem body_141 : bodyB Tryd.prog 141 = true := by kernel_rfl
theorem body_142 : bodyB Tryd.prog 142 = true := by kernel_rfl
theorem body_143 : bodyB Tryd.prog 143 = true := by kernel_rfl
theorem body_144 : bodyB Tryd.prog 144 = true := by kernel_rfl
theorem body_145 : bodyB Tryd.prog 145 = true := by kernel_rfl
theorem body_146 : bodyB Tryd.prog 146 = true := by kernel_rfl
theorem body_148 : bodyB Tryd.prog 148 = true := by kernel_rfl
theorem body_149 : bodyB Tryd.prog 149 = true := by kernel_rfl
theorem body_152 : bodyB Tryd.prog 152 = true := by kernel_rfl
theorem body_153 : bodyB Tryd.prog 153 = true := by kernel_rfl
theorem body_155 : bodyB Tryd.prog 155 = true := by kernel_rfl
theorem body_156 : bodyB Tryd.prog 156 = true := by kernel_rfl
theorem body_158 : bodyB Tryd.prog 158 = true := by kernel_rfl
theorem body_180 : bodyB Tryd.prog 180 = true := by kernel_rfl
attribute [go_sem] ty_tsz_0 ty_tagg_0 ty_hasU_0 ty_tby_0 ty_isIntT_0 ty_tsz_1 ty_tagg_1 ty_hasU_1 ty_tby_1 ty_isIntT_1 ty_tzero_1 ty_tsz_2 ty_tagg_2 ty_intK_2 ty_hasU_2 ty_tby_2 ty_tzero_2 ty_tsz_3 ty_tagg_3 ty_intK_3 ty_hasU_3 ty_tby_3 ty_tzero_3 ty_tsz_4 ty_tagg_4 ty_hasU_4 ty_isBoolT_4 ty_tby_4 ty_isIntT_4 ty_tzero_4 ty_tsz_5 ty_tagg_5 ty_intK_5 ty_hasU_5 ty_tby_5 ty_tzero_5 ty_tsz_6 ty_tagg_6 ty_intK_6 ty_hasU_6
attribute [go_sem] ty_tby_6 ty_tzero_6 ty_tsz_7 ty_tagg_7 ty_arE_7 ty_arS_7 ty_hasU_7 ty_stPl_7 ty_tby_7 ty_isIntT_7 ty_flds_7 ty_tzero_7 ty_fldO_7_0 ty_fldT_7_0 ty_fldO_7_1 ty_fldT_7_1 ty_fldO_7_2 ty_fldT_7_2 ty_fldO_7_3 ty_fldT_7_3 ty_tsz_8 ty_tagg_8 ty_arE_8 ty_arS_8 ty_hasU_8 ty_stPl_8 ty_tby_8 ty_isIntT_8 ty_flds_8 ty_tzero_8 ty_fldO_8_0 ty_fldT_8_0 ty_fldO_8_1 ty_fldT_8_1 ty_fldO_8_2 ty_fldT_8_2 ty_fldO_8_3 ty_fldT_8_3 ty_tsz_9 ty_tagg_9
attribute [go_sem] ty_isStr_9 ty_hasU_9 ty_tby_9 ty_isIntT_9 ty_tzero_9 ty_tsz_10 ty_tagg_10 ty_isStr_10 ty_hasU_10 ty_tby_10 ty_isIntT_10 ty_tzero_10 ty_tsz_11 ty_tagg_11 ty_isStr_11 ty_hasU_11 ty_tby_11 ty_isIntT_11 ty_tzero_11 ty_tsz_12 ty_tagg_12 ty_intK_12 ty_hasU_12 ty_tby_12 ty_tzero_12 ty_tsz_13 ty_tagg_13 ty_arE_13 ty_arS_13 ty_hasU_13 ty_stPl_13 ty_tby_13 ty_isIntT_13 ty_tzero_13 ty_fldO_13_0 ty_fldT_13_0 ty_fldO_13_1 ty_fldT_13_1 ty_tsz_14 ty_tagg_14
attribute [go_sem] ty_arE_14 ty_arS_14 ty_hasU_14 ty_stPl_14 ty_tby_14 ty_isIntT_14 ty_tzero_14 ty_fldO_14_0 ty_fldT_14_0 ty_fldO_14_1 ty_fldT_14_1 ty_tsz_15 ty_tagg_15 ty_hasU_15 ty_tby_15 ty_isIntT_15 ty_tzero_15 ty_tsz_16 ty_tagg_16 ty_hasU_16 ty_tby_16 ty_isIntT_16 ty_tzero_16 ty_tsz_17 ty_tagg_17 ty_hasU_17 ty_tby_17 ty_isIntT_17 ty_tzero_17 ty_tsz_18 ty_tagg_18 ty_arE_18 ty_arS_18 ty_hasU_18 ty_stPl_18 ty_tby_18 ty_isIntT_18 ty_tzero_18 ty_fldO_18_0 ty_fldT_18_0
attribute [go_sem] ty_tsz_19 ty_tagg_19 ty_arE_19 ty_arS_19 ty_hasU_19 ty_stPl_19 ty_tby_19 ty_isIntT_19 ty_tzero_19 ty_fldO_19_0 ty_fldT_19_0 ty_tsz_20 ty_tagg_20 ty_hasU_20 ty_tby_20 ty_isIntT_20 ty_tzero_20 ty_tsz_21 ty_tagg_21 ty_intK_21 ty_hasU_21 ty_tby_21 ty_tzero_21 ty_tsz_22 ty_tagg_22 ty_slE_22 ty_slS_22 ty_hasU_22 ty_tby_22 ty_isIntT_22 ty_tzero_22 ty_tsz_23 ty_tagg_23 ty_slE_23 ty_slS_23 ty_hasU_23 ty_tby_23 ty_isIntT_23 ty_tzero_23 ty_tsz_24
attribute [go_sem] ty_tagg_24 ty_arE_24 ty_arS_24 ty_hasU_24 ty_stPl_24 ty_tby_24 ty_isIntT_24 ty_flds_24 ty_tzero_24 ty_fldO_24_0 ty_fldT_24_0 ty_fldO_24_1 ty_fldT_24_1 ty_tsz_25 ty_tagg_25 ty_arE_25 ty_arS_25 ty_hasU_25 ty_stPl_25 ty_tby_25 ty_isIntT_25 ty_flds_25 ty_tzero_25 ty_fldO_25_0 ty_fldT_25_0 ty_fldO_25_1 ty_fldT_25_1 ty_tsz_26 ty_tagg_26 ty_intK_26 ty_hasU_26 ty_tby_26 ty_tzero_26 ty_tsz_27 ty_tagg_27 ty_hasU_27 ty_tby_27 ty_isIntT_27 ty_tzero_27 ty_tsz_28
attribute [go_sem] ty_tagg_28 ty_hasU_28 ty_tby_28 ty_isIntT_28 ty_tzero_28 ty_tsz_29 ty_tagg_29 ty_hasU_29 ty_tby_29 ty_isIntT_29 ty_tzero_29 ty_tsz_30 ty_tagg_30 ty_intK_30 ty_hasU_30 ty_tby_30 ty_tzero_30 ty_tsz_31 ty_tagg_31 ty_hasU_31 ty_tby_31 ty_isIntT_31 ty_tzero_31 ty_tsz_32 ty_tagg_32 ty_hasU_32 ty_tby_32 ty_isIntT_32 ty_tzero_32 ty_tsz_33 ty_tagg_33 ty_arE_33 ty_arS_33 ty_hasU_33 ty_stPl_33 ty_tby_33 ty_isIntT_33 ty_flds_33 ty_tzero_33 ty_fldO_33_0
attribute [go_sem] ty_fldT_33_0 ty_fldO_33_1 ty_fldT_33_1 ty_tsz_34 ty_tagg_34 ty_arE_34 ty_arS_34 ty_hasU_34 ty_stPl_34 ty_tby_34 ty_isIntT_34 ty_flds_34 ty_tzero_34 ty_fldO_34_0 ty_fldT_34_0 ty_fldO_34_1 ty_fldT_34_1 ty_tsz_35 ty_tagg_35 ty_hasU_35 ty_tby_35 ty_isIntT_35 ty_tsz_36 ty_tagg_36 ty_hasU_36 ty_tby_36 ty_isIntT_36 ty_tzero_36 ty_tsz_37 ty_tagg_37 ty_hasU_37 ty_tby_37 ty_isIntT_37 ty_tzero_37 ty_tsz_38 ty_tagg_38 ty_hasU_38 ty_tby_38 ty_isIntT_38 ty_tzero_38
attribute [go_sem] ty_tsz_39 ty_tagg_39 ty_hasU_39 ty_tby_39 ty_isIntT_39 ty_tsz_40 ty_tagg_40 ty_hasU_40 ty_tby_40 ty_isIntT_40 ty_tzero_40 ty_tsz_41 ty_tagg_41 ty_hasU_41 ty_tby_41 ty_isIntT_41 ty_tzero_41 ty_tsz_42 ty_tagg_42 ty_hasU_42 ty_tby_42 ty_isIntT_42 ty_tzero_42 ty_tsz_43 ty_tagg_43 ty_hasU_43 ty_tby_43 ty_isIntT_43 ty_tsz_44 ty_tagg_44 ty_hasU_44 ty_tby_44 ty_isIntT_44 ty_tzero_44 ty_tsz_45 ty_tagg_45 ty_hasU_45 ty_tby_45 ty_isIntT_45 ty_tzero_45
attribute [go_sem] ty_tsz_46 ty_tagg_46 ty_hasU_46 ty_tby_46 ty_isIntT_46 ty_tzero_46 ty_tsz_47 ty_tagg_47 ty_hasU_47 ty_tby_47 ty_isIntT_47 ty_tzero_47 ty_tsz_48 ty_tagg_48 ty_hasU_48 ty_tby_48 ty_isIntT_48 ty_tzero_48 ty_tsz_49 ty_tagg_49 ty_hasU_49 ty_tby_49 ty_isIntT_49 ty_tzero_49 ty_tsz_50 ty_tagg_50 ty_hasU_50 ty_tby_50 ty_isIntT_50 ty_tzero_50 ty_tsz_51 ty_tagg_51 ty_slE_51 ty_slS_51 ty_hasU_51 ty_tby_51 ty_isIntT_51 ty_tzero_51 ty_tsz_52 ty_tagg_52
attribute [go_sem] ty_hasU_52 ty_tby_52 ty_isIntT_52 ty_tzero_52 ty_tsz_53 ty_tagg_53 ty_slE_53 ty_slS_53 ty_hasU_53 ty_tby_53 ty_isIntT_53 ty_tzero_53 ty_tsz_54 ty_tagg_54 ty_hasU_54 ty_tby_54 ty_isIntT_54 ty_tzero_54 ty_tsz_55 ty_tagg_55 ty_hasU_55 ty_tby_55 ty_isIntT_55 ty_tsz_56 ty_tagg_56 ty_hasU_56 ty_tby_56 ty_isIntT_56 ty_tzero_56 ty_tsz_57 ty_tagg_57 ty_isFlt_57 ty_hasU_57 ty_tby_57 ty_isIntT_57 ty_tzero_57 ty_tsz_58 ty_tagg_58 ty_intK_58 ty_hasU_58
attribute [go_sem] ty_tby_58 ty_tzero_58 ty_tsz_59 ty_tagg_59 ty_arE_59 ty_arS_59 ty_hasU_59 ty_stPl_59 ty_tby_59 ty_isIntT_59 ty_flds_59 ty_tzero_59 ty_fldO_59_0 ty_fldT_59_0 ty_fldO_59_1 ty_fldT_59_1 ty_fldO_59_2 ty_fldT_59_2 ty_fldO_59_3 ty_fldT_59_3 ty_fldO_59_4 ty_fldT_59_4 ty_fldO_59_5 ty_fldT_59_5 ty_tsz_60 ty_tagg_60 ty_arE_60 ty_arS_60 ty_hasU_60 ty_stPl_60 ty_tby_60 ty_isIntT_60 ty_flds_60 ty_tzero_60 ty_fldO_60_0 ty_fldT_60_0 ty_fldO_60_1 ty_fldT_60_1 ty_fldO_60_2 ty_fldT_60_2
attribute [go_sem] ty_fldO_60_3 ty_fldT_60_3 ty_fldO_60_4 ty_fldT_60_4 ty_fldO_60_5 ty_fldT_60_5 ty_tsz_61 ty_tagg_61 ty_hasU_61 ty_tby_61 ty_isIntT_61 ty_tzero_61 ty_tsz_62 ty_tagg_62 ty_hasU_62 ty_tby_62 ty_isIntT_62 ty_tzero_62 ty_tsz_63 ty_tagg_63 ty_hasU_63 ty_tby_63 ty_isIntT_63 ty_tzero_63 ty_tsz_64 ty_tagg_64 ty_hasU_64 ty_tby_64 ty_isIntT_64 ty_tsz_65 ty_tagg_65 ty_hasU_65 ty_tby_65 ty_isIntT_65 ty_tzero_65 ty_tsz_66 ty_tagg_66 ty_hasU_66 ty_tby_66 ty_isIntT_66
attribute [go_sem] ty_tzero_66 ty_tsz_67 ty_tagg_67 ty_hasU_67 ty_tby_67 ty_isIntT_67 ty_tzero_67 ty_tsz_68 ty_tagg_68 ty_hasU_68 ty_tby_68 ty_isIntT_68 ty_tzero_68 ty_tsz_69 ty_tagg_69 ty_hasU_69 ty_tby_69 ty_isIntT_69 ty_tzero_69 ty_tsz_70 ty_tagg_70 ty_hasU_70 ty_tby_70 ty_isIntT_70 ty_tzero_70 ty_tsz_71 ty_tagg_71 ty_hasU_71 ty_tby_71 ty_isIntT_71 ty_tzero_71 ty_tsz_72 ty_tagg_72 ty_hasU_72 ty_tby_72 ty_isIntT_72 ty_tzero_72 ty_tsz_73 ty_tagg_73 ty_hasU_73
attribute [go_sem] ty_tby_73 ty_isIntT_73 ty_tzero_73 ty_tsz_74 ty_tagg_74 ty_hasU_74 ty_tby_74 ty_isIntT_74 ty_tzero_74 ty_tsz_75 ty_tagg_75 ty_hasU_75 ty_tby_75 ty_isIntT_75 ty_tzero_75 ty_tsz_76 ty_tagg_76 ty_hasU_76 ty_tby_76 ty_isIntT_76 ty_tsz_77 ty_tagg_77 ty_hasU_77 ty_tby_77 ty_isIntT_77 ty_tzero_77 ty_tsz_78 ty_tagg_78 ty_hasU_78 ty_tby_78 ty_isIntT_78 ty_tzero_78 ty_tsz_79 ty_tagg_79 ty_hasU_79 ty_tby_79 ty_isIntT_79 ty_tzero_79 ty_tsz_80 ty_tagg_80
attribute [go_sem] ty_hasU_80 ty_tby_80 ty_isIntT_80 ty_tzero_80 ty_tsz_81 ty_tagg_81 ty_hasU_81 ty_tby_81 ty_isIntT_81 ty_tzero_81 ty_tsz_82 ty_tagg_82 ty_hasU_82 ty_tby_82 ty_isIntT_82 ty_tzero_82 ty_tsz_83 ty_tagg_83 ty_hasU_83 ty_tby_83 ty_isIntT_83 ty_tzero_83 ty_tsz_84 ty_tagg_84 ty_hasU_84 ty_tby_84 ty_isIntT_84 ty_tzero_84 ty_tsz_85 ty_tagg_85 ty_hasU_85 ty_tby_85 ty_isIntT_85 ty_tsz_86 ty_tagg_86 ty_hasU_86 ty_tby_86 ty_isIntT_86 ty_tzero_86 ty_tsz_87
attribute [go_sem] ty_tagg_87 ty_hasU_87 ty_tby_87 ty_isIntT_87 ty_tsz_88 ty_tagg_88 ty_hasU_88 ty_tby_88 ty_isIntT_88 ty_tzero_88 ty_tsz_89 ty_tagg_89 ty_hasU_89 ty_tby_89 ty_isIntT_89 ty_tzero_89 ty_tsz_90 ty_tagg_90 ty_hasU_90 ty_tby_90 ty_isIntT_90 ty_tzero_90 ty_tsz_91 ty_tagg_91 ty_hasU_91 ty_tby_91 ty_isIntT_91 ty_tzero_91 ty_tsz_92 ty_tagg_92 ty_hasU_92 ty_tby_92 ty_isIntT_92 ty_tzero_92 ty_tsz_93 ty_tagg_93 ty_hasU_93 ty_tby_93 ty_isIntT_93 ty_tzero_93
attribute [go_sem] ty_tsz_94 ty_tagg_94 ty_hasU_94 ty_tby_94 ty_isIntT_94 ty_tzero_94 ty_tsz_95 ty_tagg_95 ty_hasU_95 ty_tby_95 ty_isIntT_95 ty_tzero_95 ty_tsz_96 ty_tagg_96 ty_hasU_96 ty_tby_96 ty_isIntT_96 ty_tzero_96 ty_tsz_97 ty_tagg_97 ty_hasU_97 ty_tby_97 ty_isIntT_97 ty_tzero_97 ty_tsz_98 ty_tagg_98 ty_hasU_98 ty_tby_98 ty_isIntT_98 ty_tzero_98 ty_tsz_99 ty_tagg_99 ty_hasU_99 ty_tby_99 ty_isIntT_99 ty_tzero_99 ty_tsz_100 ty_tagg_100 ty_hasU_100 ty_tby_100
attribute [go_sem] ty_isIntT_100 ty_tzero_100 ty_tsz_101 ty_tagg_101 ty_hasU_101 ty_tby_101 ty_isIntT_101 ty_tzero_101 ty_tsz_102 ty_tagg_102 ty_hasU_102 ty_tby_102 ty_isIntT_102 ty_tzero_102 ty_tsz_103 ty_tagg_103 ty_hasU_103 ty_tby_103 ty_isIntT_103 ty_tzero_103 ty_tsz_104 ty_tagg_104 ty_hasU_104 ty_tby_104 ty_isIntT_104 ty_tzero_104 ty_tsz_105 ty_tagg_105 ty_hasU_105 ty_tby_105 ty_isIntT_105 ty_tzero_105 ty_tsz_106 ty_tagg_106 ty_hasU_106 ty_tby_106 ty_isIntT_106 ty_tzero_106 ty_tsz_107 ty_tagg_107
attribute [go_sem] ty_hasU_107 ty_tby_107 ty_isIntT_107 ty_tzero_107 ty_tsz_108 ty_tagg_108 ty_hasU_108 ty_tby_108 ty_isIntT_108 ty_tzero_108 ty_tsz_109 ty_tagg_109 ty_hasU_109 ty_tby_109 ty_isIntT_109 ty_tzero_109 ty_tsz_110 ty_tagg_110 ty_hasU_110 ty_tby_110 ty_isIntT_110 ty_tzero_110 ty_tsz_111 ty_tagg_111 ty_hasU_111 ty_tby_111 ty_isIntT_111 ty_tzero_111 ty_tsz_112 ty_tagg_112 ty_hasU_112 ty_tby_112 ty_isIntT_112 ty_tzero_112 ty_tsz_113 ty_tagg_113 ty_hasU_113 ty_tby_113 ty_isIntT_113 ty_tzero_113
attribute [go_sem] ty_tsz_114 ty_tagg_114 ty_hasU_114 ty_tby_114 ty_isIntT_114 ty_tzero_114 ty_tsz_115 ty_tagg_115 ty_hasU_115 ty_tby_115 ty_isIntT_115 ty_tsz_116 ty_tagg_116 ty_hasU_116 ty_tby_116 ty_isIntT_116 ty_tzero_116 ty_tsz_117 ty_tagg_117 ty_hasU_117 ty_tby_117 ty_isIntT_117 ty_tzero_117 ty_tsz_118 ty_tagg_118 ty_hasU_118 ty_tby_118 ty_isIntT_118 ty_tzero_118 ty_tsz_119 ty_tagg_119 ty_hasU_119 ty_tby_119 ty_isIntT_119 ty_tzero_119 ty_tsz_120 ty_tagg_120 ty_hasU_120 ty_tby_120 ty_isIntT_120
attribute [go_sem] ty_tzero_120 ty_tsz_121 ty_tagg_121 ty_hasU_121 ty_tby_121 ty_isIntT_121 ty_tzero_121 ty_tsz_122 ty_tagg_122 ty_hasU_122 ty_tby_122 ty_isIntT_122 ty_tzero_122 ty_tsz_123 ty_tagg_123 ty_hasU_123 ty_tby_123 ty_isIntT_123 ty_tzero_123 ty_tsz_124 ty_tagg_124 ty_hasU_124 ty_tby_124 ty_isIntT_124 ty_tzero_124 ty_tsz_125 ty_tagg_125 ty_hasU_125 ty_tby_125 ty_isIntT_125 ty_tzero_125 ty_tsz_126 ty_tagg_126 ty_hasU_126 ty_tby_126 ty_isIntT_126 ty_tzero_126 ty_tsz_127 ty_tagg_127 ty_hasU_127
attribute [go_sem] ty_tby_127 ty_isIntT_127 ty_tzero_127 ty_tsz_128 ty_tagg_128 ty_hasU_128 ty_tby_128 ty_isIntT_128 ty_tzero_128 ty_tsz_129 ty_tagg_129 ty_hasU_129 ty_tby_129 ty_isIntT_129 ty_tzero_129 ty_tsz_130 ty_tagg_130 ty_slE_130 ty_slS_130 ty_hasU_130 ty_tby_130 ty_isIntT_130 ty_tzero_130 ty_tsz_131 ty_tagg_131 ty_arE_131 ty_arS_131 ty_hasU_131 ty_stPl_131 ty_tby_131 ty_isIntT_131 ty_flds_131 ty_tzero_131 ty_fldO_131_0 ty_fldT_131_0 ty_fldO_131_1 ty_fldT_131_1 ty_tsz_132 ty_tagg_132 ty_arE_132
attribute [go_sem] ty_arS_132 ty_hasU_132 ty_stPl_132 ty_tby_132 ty_isIntT_132 ty_flds_132 ty_tzero_132 ty_fldO_132_0 ty_fldT_132_0 ty_fldO_132_1 ty_fldT_132_1 ty_tsz_133 ty_tagg_133 ty_hasU_133 ty_tby_133 ty_isIntT_133 ty_tzero_133 ty_tsz_134 ty_tagg_134 ty_hasU_134 ty_tby_134 ty_isIntT_134 ty_tzero_134 ty_tsz_135 ty_tagg_135 ty_hasU_135 ty_tby_135 ty_isIntT_135 ty_tzero_135 ty_tsz_136 ty_tagg_136 ty_hasU_136 ty_tby_136 ty_isIntT_136 ty_tsz_137 ty_tagg_137 ty_hasU_137 ty_tby_137 ty_isIntT_137 ty_tzero_137
attribute [go_sem] ty_tsz_138 ty_tagg_138 ty_hasU_138 ty_tby_138 ty_isIntT_138 ty_tzero_138 ty_tsz_139 ty_tagg_139 ty_intK_139 ty_hasU_139 ty_tby_139 ty_tzero_139 ty_tsz_140 ty_tagg_140 ty_hasU_140 ty_tby_140 ty_isIntT_140 ty_tzero_140 ty_tsz_141 ty_tagg_141 ty_hasU_141 ty_tby_141 ty_isIntT_141 ty_tzero_141 ty_tsz_142 ty_tagg_142 ty_hasU_142 ty_tby_142 ty_isIntT_142 ty_tzero_142 ty_tsz_143 ty_tagg_143 ty_hasU_143 ty_tby_143 ty_isIntT_143 ty_tsz_144 ty_tagg_144 ty_hasU_144 ty_tby_144 ty_isIntT_144
attribute [go_sem] ty_tzero_144 ty_tsz_145 ty_tagg_145 ty_hasU_145 ty_tby_145 ty_isIntT_145 ty_tzero_145 ty_tsz_146 ty_tagg_146 ty_hasU_146 ty_tby_146 ty_isIntT_146 ty_tzero_146 ty_tsz_147 ty_tagg_147 ty_hasU_147 ty_tby_147 ty_isIntT_147 ty_tzero_147 ty_tsz_148 ty_tagg_148 ty_hasU_148 ty_tby_148 ty_isIntT_148 ty_tzero_148 ty_tsz_149 ty_tagg_149 ty_hasU_149 ty_tby_149 ty_isIntT_149 ty_tzero_149 ty_tsz_150 ty_tagg_150 ty_hasU_150 ty_tby_150 ty_isIntT_150 ty_tzero_150 ty_tsz_151 ty_tagg_151 ty_hasU_151
attribute [go_sem] ty_tby_151 ty_isIntT_151 ty_tzero_151 ty_tsz_152 ty_tagg_152 ty_hasU_152 ty_tby_152 ty_isIntT_152 ty_tzero_152 ty_tsz_153 ty_tagg_153 ty_arE_153 ty_arS_153 ty_hasU_153 ty_tby_153 ty_isIntT_153 ty_tzero_153 ty_tsz_154 ty_tagg_154 ty_arE_154 ty_arS_154 ty_hasU_154 ty_stPl_154 ty_tby_154 ty_isIntT_154 ty_flds_154 ty_tzero_154 ty_fldO_154_0 ty_fldT_154_0 ty_fldO_154_1 ty_fldT_154_1 ty_tsz_155 ty_tagg_155 ty_arE_155 ty_arS_155 ty_hasU_155 ty_stPl_155 ty_tby_155 ty_isIntT_155 ty_flds_155
attribute [go_sem] ty_tzero_155 ty_fldO_155_0 ty_fldT_155_0 ty_fldO_155_1 ty_fldT_155_1 ty_tsz_156 ty_tagg_156 ty_arE_156 ty_arS_156 ty_hasU_156 ty_tby_156 ty_isIntT_156 ty_tzero_156 ty_tsz_157 ty_tagg_157 ty_hasU_157 ty_tby_157 ty_isIntT_157 ty_tsz_158 ty_tagg_158 ty_hasU_158 ty_tby_158 ty_isIntT_158 ty_tzero_158 ty_tsz_159 ty_tagg_159 ty_arE_159 ty_arS_159 ty_hasU_159 ty_stPl_159 ty_tby_159 ty_isIntT_159 ty_tzero_159 ty_fldO_159_0 ty_fldT_159_0 ty_fldO_159_1 ty_fldT_159_1 ty_fldO_159_2 ty_fldT_159_2 ty_fldO_159_3
attribute [go_sem] ty_fldT_159_3 ty_tsz_160 ty_tagg_160 ty_arE_160 ty_arS_160 ty_hasU_160 ty_stPl_160 ty_tby_160 ty_isIntT_160 ty_tzero_160 ty_fldO_160_0 ty_fldT_160_0 ty_fldO_160_1 ty_fldT_160_1 ty_fldO_160_2 ty_fldT_160_2 ty_fldO_160_3 ty_fldT_160_3 ty_tsz_161 ty_tagg_161 ty_arE_161 ty_arS_161 ty_hasU_161 ty_tby_161 ty_isIntT_161 ty_tzero_161 ty_tsz_162 ty_tagg_162 ty_arE_162 ty_arS_162 ty_hasU_162 ty_stPl_162 ty_tby_162 ty_isIntT_162 ty_tzero_162 ty_fldT_162_0 ty_tsz_163 ty_tagg_163 ty_arE_163 ty_arS_163
attribute [go_sem] ty_hasU_163 ty_stPl_163 ty_tby_163 ty_isIntT_163 ty_tzero_163 ty_fldT_163_0 ty_tsz_164 ty_tagg_164 ty_hasU_164 ty_tby_164 ty_isIntT_164 ty_tzero_164 ty_tsz_165 ty_tagg_165 ty_intK_165 ty_hasU_165 ty_tby_165 ty_tzero_165 ty_tsz_166 ty_tagg_166 ty_intK_166 ty_hasU_166 ty_tby_166 ty_tzero_166 ty_tsz_167 ty_tagg_167 ty_hasU_167 ty_tby_167 ty_isIntT_167 ty_tzero_167 ty_tsz_168 ty_tagg_168 ty_intK_168 ty_hasU_168 ty_tby_168 ty_tzero_168 ty_tsz_169 ty_tagg_169 ty_intK_169 ty_hasU_169
attribute [go_sem] ty_tby_169 ty_tzero_169 ty_tsz_170 ty_tagg_170 ty_arE_170 ty_arS_170 ty_hasU_170 ty_stPl_170 ty_tby_170 ty_isIntT_170 ty_tzero_170 ty_fldO_170_0 ty_fldT_170_0 ty_fldO_170_1 ty_fldT_170_1 ty_fldO_170_2 ty_fldT_170_2 ty_fldO_170_3 ty_fldT_170_3 ty_fldO_170_4 ty_fldT_170_4 ty_fldO_170_5 ty_fldT_170_5 ty_fldO_170_6 ty_fldT_170_6 ty_fldO_170_7 ty_fldT_170_7 ty_tsz_171 ty_tagg_171 ty_arE_171 ty_arS_171 ty_hasU_171 ty_stPl_171 ty_tby_171 ty_isIntT_171 ty_tzero_171 ty_fldO_171_0 ty_fldT_171_0 ty_fldO_171_1 ty_fldT_171_1
attribute [go_sem] ty_fldO_171_2 ty_fldT_171_2 ty_fldO_171_3 ty_fldT_171_3 ty_fldO_171_4 ty_fldT_171_4 ty_fldO_171_5 ty_fldT_171_5 ty_fldO_171_6 ty_fldT_171_6 ty_fldO_171_7 ty_fldT_171_7
theorem mixed : Tryd.prog.follows .mixedOrders = true := by kernel_rfl
end Go.Proofs.YtengjcdilnikhaaDoor.Am
