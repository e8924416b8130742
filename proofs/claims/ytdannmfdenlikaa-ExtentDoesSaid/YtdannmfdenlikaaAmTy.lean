/-
  Facts on the types and functions of the program, for the evaluator (each by the kernel).
-/
import Derived.Test.YtdannmfdenlikaaAmApp
import Derived.Test.YtdannmfdenlikaaProg
namespace Go.Proofs.Ytdannmfdenlikaa.Am
open Go
theorem ty_tsz_0 : tsz Try.prog 0 = some 1 := by kernel_rfl
theorem ty_tagg_0 : tagg Try.prog 0 = some false := by kernel_rfl
theorem ty_hasU_0 : hasU Try.prog 0 = true := by kernel_rfl
theorem ty_tby_0 : tby Try.prog 0 = some 0 := by kernel_rfl
theorem ty_isIntT_0 : isIntT Try.prog 0 = false := by kernel_rfl
theorem ty_tsz_1 : tsz Try.prog 1 = some 1 := by kernel_rfl
theorem ty_tagg_1 : tagg Try.prog 1 = some false := by kernel_rfl
theorem ty_hasU_1 : hasU Try.prog 1 = true := by kernel_rfl
theorem ty_tby_1 : tby Try.prog 1 = some 8 := by kernel_rfl
theorem ty_isIntT_1 : isIntT Try.prog 1 = false := by kernel_rfl
theorem ty_tzero_1 : tzero Try.prog 1 = some [.nilFunc] := by kernel_rfl
theorem ty_tsz_2 : tsz Try.prog 2 = some 1 := by kernel_rfl
theorem ty_tagg_2 : tagg Try.prog 2 = some false := by kernel_rfl
theorem ty_intK_2 : intK Try.prog 2 = some .i64 := by kernel_rfl
theorem ty_hasU_2 : hasU Try.prog 2 = true := by kernel_rfl
theorem ty_tby_2 : tby Try.prog 2 = some 8 := by kernel_rfl
theorem ty_tzero_2 : tzero Try.prog 2 = some [(.int .i64 0)] := by kernel_rfl
theorem ty_tsz_3 : tsz Try.prog 3 = some 1 := by kernel_rfl
theorem ty_tagg_3 : tagg Try.prog 3 = some false := by kernel_rfl
theorem ty_intK_3 : intK Try.prog 3 = some .i64 := by kernel_rfl
theorem ty_hasU_3 : hasU Try.prog 3 = true := by kernel_rfl
theorem ty_tby_3 : tby Try.prog 3 = some 8 := by kernel_rfl
theorem ty_tzero_3 : tzero Try.prog 3 = some [(.int .i64 0)] := by kernel_rfl
theorem ty_tsz_4 : tsz Try.prog 4 = some 1 := by kernel_rfl
theorem ty_tagg_4 : tagg Try.prog 4 = some false := by kernel_rfl
theorem ty_hasU_4 : hasU Try.prog 4 = true := by kernel_rfl
theorem ty_isBoolT_4 : isBoolT Try.prog 4 = true := by kernel_rfl
theorem ty_tby_4 : tby Try.prog 4 = some 1 := by kernel_rfl
theorem ty_isIntT_4 : isIntT Try.prog 4 = false := by kernel_rfl
theorem ty_tzero_4 : tzero Try.prog 4 = some [(.bool false)] := by kernel_rfl
theorem ty_tsz_5 : tsz Try.prog 5 = some 1 := by kernel_rfl
theorem ty_tagg_5 : tagg Try.prog 5 = some false := by kernel_rfl
theorem ty_intK_5 : intK Try.prog 5 = some .u8 := by kernel_rfl
theorem ty_hasU_5 : hasU Try.prog 5 = true := by kernel_rfl
theorem ty_tby_5 : tby Try.prog 5 = some 1 := by kernel_rfl
theorem ty_tzero_5 : tzero Try.prog 5 = some [(.int .u8 0)] := by kernel_rfl
theorem ty_tsz_6 : tsz Try.prog 6 = some 1 := by kernel_rfl
theorem ty_tagg_6 : tagg Try.prog 6 = some false := by kernel_rfl
theorem ty_intK_6 : intK Try.prog 6 = some .u8 := by kernel_rfl
theorem ty_hasU_6 : hasU Try.prog 6 = true := by kernel_rfl
theorem ty_tby_6 : tby Try.prog 6 = some 1 := by kernel_rfl
theorem ty_tzero_6 : tzero Try.prog 6 = some [(.int .u8 0)] := by kernel_rfl
theorem ty_tsz_7 : tsz Try.prog 7 = some 4 := by kernel_rfl
theorem ty_tagg_7 : tagg Try.prog 7 = some true := by kernel_rfl
theorem ty_arE_7 : arE Try.prog 7 = none := by kernel_rfl
theorem ty_arS_7 : arS Try.prog 7 = none := by kernel_rfl
theorem ty_hasU_7 : hasU Try.prog 7 = true := by kernel_rfl
theorem ty_stPl_7 : stPl Try.prog 7 = some [(0, 1), (1, 1), (2, 1), (3, 1)] := by kernel_rfl
theorem ty_tby_7 : tby Try.prog 7 = some 24 := by kernel_rfl
theorem ty_isIntT_7 : isIntT Try.prog 7 = false := by kernel_rfl
theorem ty_flds_7 : flds Try.prog 7 = some [(0, 2), (1, 3), (2, 4), (3, 6)] := by kernel_rfl
theorem ty_tzero_7 : tzero Try.prog 7 = some [(.int .i64 0), (.int .i64 0), (.bool false), (.int .u8 0)] := by kernel_rfl
theorem ty_fldO_7_0 : fldO Try.prog 7 0 = some 0 := by kernel_rfl
theorem ty_fldT_7_0 : fldT Try.prog 7 0 = some (2, 0) := by kernel_rfl
theorem ty_fldO_7_1 : fldO Try.prog 7 1 = some 1 := by kernel_rfl
theorem ty_fldT_7_1 : fldT Try.prog 7 1 = some (3, 1) := by kernel_rfl
theorem ty_fldO_7_2 : fldO Try.prog 7 2 = some 2 := by kernel_rfl
theorem ty_fldT_7_2 : fldT Try.prog 7 2 = some (4, 2) := by kernel_rfl
theorem ty_fldO_7_3 : fldO Try.prog 7 3 = some 3 := by kernel_rfl
theorem ty_fldT_7_3 : fldT Try.prog 7 3 = some (6, 3) := by kernel_rfl
theorem ty_tsz_8 : tsz Try.prog 8 = some 4 := by kernel_rfl
theorem ty_tagg_8 : tagg Try.prog 8 = some true := by kernel_rfl
theorem ty_arE_8 : arE Try.prog 8 = none := by kernel_rfl
theorem ty_arS_8 : arS Try.prog 8 = none := by kernel_rfl
theorem ty_hasU_8 : hasU Try.prog 8 = true := by kernel_rfl
theorem ty_stPl_8 : stPl Try.prog 8 = some [(0, 1), (1, 1), (2, 1), (3, 1)] := by kernel_rfl
theorem ty_tby_8 : tby Try.prog 8 = some 24 := by kernel_rfl
theorem ty_isIntT_8 : isIntT Try.prog 8 = false := by kernel_rfl
theorem ty_flds_8 : flds Try.prog 8 = some [(0, 2), (1, 3), (2, 4), (3, 6)] := by kernel_rfl
theorem ty_tzero_8 : tzero Try.prog 8 = some [(.int .i64 0), (.int .i64 0), (.bool false), (.int .u8 0)] := by kernel_rfl
theorem ty_fldO_8_0 : fldO Try.prog 8 0 = some 0 := by kernel_rfl
theorem ty_fldT_8_0 : fldT Try.prog 8 0 = some (2, 0) := by kernel_rfl
theorem ty_fldO_8_1 : fldO Try.prog 8 1 = some 1 := by kernel_rfl
theorem ty_fldT_8_1 : fldT Try.prog 8 1 = some (3, 1) := by kernel_rfl
theorem ty_fldO_8_2 : fldO Try.prog 8 2 = some 2 := by kernel_rfl
theorem ty_fldT_8_2 : fldT Try.prog 8 2 = some (4, 2) := by kernel_rfl
theorem ty_fldO_8_3 : fldO Try.prog 8 3 = some 3 := by kernel_rfl
theorem ty_fldT_8_3 : fldT Try.prog 8 3 = some (6, 3) := by kernel_rfl
theorem ty_tsz_9 : tsz Try.prog 9 = some 1 := by kernel_rfl
theorem ty_tagg_9 : tagg Try.prog 9 = some false := by kernel_rfl
theorem ty_isStr_9 : isStr Try.prog 9 = true := by kernel_rfl
theorem ty_hasU_9 : hasU Try.prog 9 = true := by kernel_rfl
theorem ty_tby_9 : tby Try.prog 9 = some 16 := by kernel_rfl
theorem ty_isIntT_9 : isIntT Try.prog 9 = false := by kernel_rfl
theorem ty_tzero_9 : tzero Try.prog 9 = some [(.string ByteArray.empty)] := by kernel_rfl
theorem ty_tsz_10 : tsz Try.prog 10 = some 1 := by kernel_rfl
theorem ty_tagg_10 : tagg Try.prog 10 = some false := by kernel_rfl
theorem ty_isStr_10 : isStr Try.prog 10 = true := by kernel_rfl
theorem ty_hasU_10 : hasU Try.prog 10 = true := by kernel_rfl
theorem ty_tby_10 : tby Try.prog 10 = some 16 := by kernel_rfl
theorem ty_isIntT_10 : isIntT Try.prog 10 = false := by kernel_rfl
theorem ty_tzero_10 : tzero Try.prog 10 = some [(.string ByteArray.empty)] := by kernel_rfl
theorem ty_tsz_11 : tsz Try.prog 11 = some 1 := by kernel_rfl
theorem ty_tagg_11 : tagg Try.prog 11 = some false := by kernel_rfl
theorem ty_isStr_11 : isStr Try.prog 11 = true := by kernel_rfl
theorem ty_hasU_11 : hasU Try.prog 11 = true := by kernel_rfl
theorem ty_tby_11 : tby Try.prog 11 = some 16 := by kernel_rfl
theorem ty_isIntT_11 : isIntT Try.prog 11 = false := by kernel_rfl
theorem ty_tzero_11 : tzero Try.prog 11 = some [(.string ByteArray.empty)] := by kernel_rfl
theorem ty_tsz_12 : tsz Try.prog 12 = some 1 := by kernel_rfl
theorem ty_tagg_12 : tagg Try.prog 12 = some false := by kernel_rfl
theorem ty_intK_12 : intK Try.prog 12 = some .u64 := by kernel_rfl
theorem ty_hasU_12 : hasU Try.prog 12 = true := by kernel_rfl
theorem ty_tby_12 : tby Try.prog 12 = some 8 := by kernel_rfl
theorem ty_tzero_12 : tzero Try.prog 12 = some [(.int .u64 0)] := by kernel_rfl
theorem ty_tsz_13 : tsz Try.prog 13 = some 2 := by kernel_rfl
theorem ty_tagg_13 : tagg Try.prog 13 = some true := by kernel_rfl
theorem ty_arE_13 : arE Try.prog 13 = none := by kernel_rfl
theorem ty_arS_13 : arS Try.prog 13 = none := by kernel_rfl
theorem ty_hasU_13 : hasU Try.prog 13 = true := by kernel_rfl
theorem ty_stPl_13 : stPl Try.prog 13 = some [(0, 1), (1, 1)] := by kernel_rfl
theorem ty_tby_13 : tby Try.prog 13 = some 24 := by kernel_rfl
theorem ty_isIntT_13 : isIntT Try.prog 13 = false := by kernel_rfl
theorem ty_tzero_13 : tzero Try.prog 13 = some [(.string ByteArray.empty), (.int .u64 0)] := by kernel_rfl
theorem ty_fldO_13_0 : fldO Try.prog 13 0 = some 0 := by kernel_rfl
theorem ty_fldT_13_0 : fldT Try.prog 13 0 = some (9, 0) := by kernel_rfl
theorem ty_fldO_13_1 : fldO Try.prog 13 1 = some 1 := by kernel_rfl
theorem ty_fldT_13_1 : fldT Try.prog 13 1 = some (12, 1) := by kernel_rfl
theorem ty_tsz_14 : tsz Try.prog 14 = some 2 := by kernel_rfl
theorem ty_tagg_14 : tagg Try.prog 14 = some true := by kernel_rfl
theorem ty_arE_14 : arE Try.prog 14 = none := by kernel_rfl
theorem ty_arS_14 : arS Try.prog 14 = none := by kernel_rfl
theorem ty_hasU_14 : hasU Try.prog 14 = true := by kernel_rfl
theorem ty_stPl_14 : stPl Try.prog 14 = some [(0, 1), (1, 1)] := by kernel_rfl
theorem ty_tby_14 : tby Try.prog 14 = some 24 := by kernel_rfl
theorem ty_isIntT_14 : isIntT Try.prog 14 = false := by kernel_rfl
theorem ty_tzero_14 : tzero Try.prog 14 = some [(.string ByteArray.empty), (.int .u64 0)] := by kernel_rfl
theorem ty_fldO_14_0 : fldO Try.prog 14 0 = some 0 := by kernel_rfl
theorem ty_fldT_14_0 : fldT Try.prog 14 0 = some (9, 0) := by kernel_rfl
theorem ty_fldO_14_1 : fldO Try.prog 14 1 = some 1 := by kernel_rfl
theorem ty_fldT_14_1 : fldT Try.prog 14 1 = some (12, 1) := by kernel_rfl
theorem ty_tsz_15 : tsz Try.prog 15 = some 1 := by kernel_rfl
theorem ty_tagg_15 : tagg Try.prog 15 = some false := by kernel_rfl
theorem ty_hasU_15 : hasU Try.prog 15 = true := by kernel_rfl
theorem ty_tby_15 : tby Try.prog 15 = some 8 := by kernel_rfl
theorem ty_isIntT_15 : isIntT Try.prog 15 = false := by kernel_rfl
theorem ty_tzero_15 : tzero Try.prog 15 = some [(.pointer none)] := by kernel_rfl
theorem ty_tsz_16 : tsz Try.prog 16 = some 1 := by kernel_rfl
theorem ty_tagg_16 : tagg Try.prog 16 = some false := by kernel_rfl
theorem ty_hasU_16 : hasU Try.prog 16 = true := by kernel_rfl
theorem ty_tby_16 : tby Try.prog 16 = some 8 := by kernel_rfl
theorem ty_isIntT_16 : isIntT Try.prog 16 = false := by kernel_rfl
theorem ty_tzero_16 : tzero Try.prog 16 = some [(.pointer none)] := by kernel_rfl
theorem ty_tsz_17 : tsz Try.prog 17 = some 1 := by kernel_rfl
theorem ty_tagg_17 : tagg Try.prog 17 = some false := by kernel_rfl
theorem ty_hasU_17 : hasU Try.prog 17 = true := by kernel_rfl
theorem ty_tby_17 : tby Try.prog 17 = some 8 := by kernel_rfl
theorem ty_isIntT_17 : isIntT Try.prog 17 = false := by kernel_rfl
theorem ty_tzero_17 : tzero Try.prog 17 = some [(.pointer none)] := by kernel_rfl
theorem ty_tsz_18 : tsz Try.prog 18 = some 1 := by kernel_rfl
theorem ty_tagg_18 : tagg Try.prog 18 = some true := by kernel_rfl
theorem ty_arE_18 : arE Try.prog 18 = none := by kernel_rfl
theorem ty_arS_18 : arS Try.prog 18 = none := by kernel_rfl
theorem ty_hasU_18 : hasU Try.prog 18 = true := by kernel_rfl
theorem ty_stPl_18 : stPl Try.prog 18 = some [(0, 1)] := by kernel_rfl
theorem ty_tby_18 : tby Try.prog 18 = some 8 := by kernel_rfl
theorem ty_isIntT_18 : isIntT Try.prog 18 = false := by kernel_rfl
theorem ty_tzero_18 : tzero Try.prog 18 = some [(.pointer none)] := by kernel_rfl
theorem ty_fldO_18_0 : fldO Try.prog 18 0 = some 0 := by kernel_rfl
theorem ty_fldT_18_0 : fldT Try.prog 18 0 = some (17, 0) := by kernel_rfl
theorem ty_tsz_19 : tsz Try.prog 19 = some 1 := by kernel_rfl
theorem ty_tagg_19 : tagg Try.prog 19 = some true := by kernel_rfl
theorem ty_arE_19 : arE Try.prog 19 = none := by kernel_rfl
theorem ty_arS_19 : arS Try.prog 19 = none := by kernel_rfl
theorem ty_hasU_19 : hasU Try.prog 19 = true := by kernel_rfl
theorem ty_stPl_19 : stPl Try.prog 19 = some [(0, 1)] := by kernel_rfl
theorem ty_tby_19 : tby Try.prog 19 = some 8 := by kernel_rfl
theorem ty_isIntT_19 : isIntT Try.prog 19 = false := by kernel_rfl
theorem ty_tzero_19 : tzero Try.prog 19 = some [(.pointer none)] := by kernel_rfl
theorem ty_fldO_19_0 : fldO Try.prog 19 0 = some 0 := by kernel_rfl
theorem ty_fldT_19_0 : fldT Try.prog 19 0 = some (17, 0) := by kernel_rfl
theorem ty_tsz_20 : tsz Try.prog 20 = some 1 := by kernel_rfl
theorem ty_tagg_20 : tagg Try.prog 20 = some false := by kernel_rfl
theorem ty_hasU_20 : hasU Try.prog 20 = true := by kernel_rfl
theorem ty_tby_20 : tby Try.prog 20 = some 16 := by kernel_rfl
theorem ty_isIntT_20 : isIntT Try.prog 20 = false := by kernel_rfl
theorem ty_tzero_20 : tzero Try.prog 20 = some [.nilIface] := by kernel_rfl
theorem ty_tsz_21 : tsz Try.prog 21 = some 1 := by kernel_rfl
theorem ty_tagg_21 : tagg Try.prog 21 = some false := by kernel_rfl
theorem ty_intK_21 : intK Try.prog 21 = some .i32 := by kernel_rfl
theorem ty_hasU_21 : hasU Try.prog 21 = true := by kernel_rfl
theorem ty_tby_21 : tby Try.prog 21 = some 4 := by kernel_rfl
theorem ty_tzero_21 : tzero Try.prog 21 = some [(.int .i32 0)] := by kernel_rfl
theorem ty_tsz_22 : tsz Try.prog 22 = some 1 := by kernel_rfl
theorem ty_tagg_22 : tagg Try.prog 22 = some false := by kernel_rfl
theorem ty_slE_22 : slE Try.prog 22 = some 30 := by kernel_rfl
theorem ty_slS_22 : slS Try.prog 22 = some 1 := by kernel_rfl
theorem ty_hasU_22 : hasU Try.prog 22 = true := by kernel_rfl
theorem ty_tby_22 : tby Try.prog 22 = some 24 := by kernel_rfl
theorem ty_isIntT_22 : isIntT Try.prog 22 = false := by kernel_rfl
theorem ty_tzero_22 : tzero Try.prog 22 = some [(.slice none 0 0)] := by kernel_rfl
theorem ty_tsz_23 : tsz Try.prog 23 = some 1 := by kernel_rfl
theorem ty_tagg_23 : tagg Try.prog 23 = some false := by kernel_rfl
theorem ty_hasU_23 : hasU Try.prog 23 = true := by kernel_rfl
theorem ty_tby_23 : tby Try.prog 23 = some 8 := by kernel_rfl
theorem ty_isIntT_23 : isIntT Try.prog 23 = false := by kernel_rfl
theorem ty_tzero_23 : tzero Try.prog 23 = some [.nilFunc] := by kernel_rfl
theorem ty_tsz_24 : tsz Try.prog 24 = some 1 := by kernel_rfl
theorem ty_tagg_24 : tagg Try.prog 24 = some false := by kernel_rfl
theorem ty_slE_24 : slE Try.prog 24 = some 33 := by kernel_rfl
theorem ty_slS_24 : slS Try.prog 24 = some 2 := by kernel_rfl
theorem ty_hasU_24 : hasU Try.prog 24 = true := by kernel_rfl
theorem ty_tby_24 : tby Try.prog 24 = some 24 := by kernel_rfl
theorem ty_isIntT_24 : isIntT Try.prog 24 = false := by kernel_rfl
theorem ty_tzero_24 : tzero Try.prog 24 = some [(.slice none 0 0)] := by kernel_rfl
theorem ty_tsz_25 : tsz Try.prog 25 = some 2 := by kernel_rfl
theorem ty_tagg_25 : tagg Try.prog 25 = some true := by kernel_rfl
theorem ty_arE_25 : arE Try.prog 25 = none := by kernel_rfl
theorem ty_arS_25 : arS Try.prog 25 = none := by kernel_rfl
theorem ty_hasU_25 : hasU Try.prog 25 = true := by kernel_rfl
theorem ty_stPl_25 : stPl Try.prog 25 = some [(0, 1), (1, 1)] := by kernel_rfl
theorem ty_tby_25 : tby Try.prog 25 = some 32 := by kernel_rfl
theorem ty_isIntT_25 : isIntT Try.prog 25 = false := by kernel_rfl
theorem ty_flds_25 : flds Try.prog 25 = some [(0, 3), (1, 24)] := by kernel_rfl
theorem ty_tzero_25 : tzero Try.prog 25 = some [(.int .i64 0), (.slice none 0 0)] := by kernel_rfl
theorem ty_fldO_25_0 : fldO Try.prog 25 0 = some 0 := by kernel_rfl
theorem ty_fldT_25_0 : fldT Try.prog 25 0 = some (3, 0) := by kernel_rfl
theorem ty_fldO_25_1 : fldO Try.prog 25 1 = some 1 := by kernel_rfl
theorem ty_fldT_25_1 : fldT Try.prog 25 1 = some (24, 1) := by kernel_rfl
theorem ty_tsz_26 : tsz Try.prog 26 = some 2 := by kernel_rfl
theorem ty_tagg_26 : tagg Try.prog 26 = some true := by kernel_rfl
theorem ty_arE_26 : arE Try.prog 26 = none := by kernel_rfl
theorem ty_arS_26 : arS Try.prog 26 = none := by kernel_rfl
theorem ty_hasU_26 : hasU Try.prog 26 = true := by kernel_rfl
theorem ty_stPl_26 : stPl Try.prog 26 = some [(0, 1), (1, 1)] := by kernel_rfl
theorem ty_tby_26 : tby Try.prog 26 = some 32 := by kernel_rfl
theorem ty_isIntT_26 : isIntT Try.prog 26 = false := by kernel_rfl
theorem ty_flds_26 : flds Try.prog 26 = some [(0, 3), (1, 24)] := by kernel_rfl
theorem ty_tzero_26 : tzero Try.prog 26 = some [(.int .i64 0), (.slice none 0 0)] := by kernel_rfl
theorem ty_fldO_26_0 : fldO Try.prog 26 0 = some 0 := by kernel_rfl
theorem ty_fldT_26_0 : fldT Try.prog 26 0 = some (3, 0) := by kernel_rfl
theorem ty_fldO_26_1 : fldO Try.prog 26 1 = some 1 := by kernel_rfl
theorem ty_fldT_26_1 : fldT Try.prog 26 1 = some (24, 1) := by kernel_rfl
theorem ty_tsz_27 : tsz Try.prog 27 = some 1 := by kernel_rfl
theorem ty_tagg_27 : tagg Try.prog 27 = some false := by kernel_rfl
theorem ty_intK_27 : intK Try.prog 27 = some .i64 := by kernel_rfl
theorem ty_hasU_27 : hasU Try.prog 27 = true := by kernel_rfl
theorem ty_tby_27 : tby Try.prog 27 = some 8 := by kernel_rfl
theorem ty_tzero_27 : tzero Try.prog 27 = some [(.int .i64 0)] := by kernel_rfl
theorem ty_tsz_28 : tsz Try.prog 28 = some 1 := by kernel_rfl
theorem ty_tagg_28 : tagg Try.prog 28 = some false := by kernel_rfl
theorem ty_hasU_28 : hasU Try.prog 28 = true := by kernel_rfl
theorem ty_tby_28 : tby Try.prog 28 = some 0 := by kernel_rfl
theorem ty_isIntT_28 : isIntT Try.prog 28 = false := by kernel_rfl
theorem ty_tsz_29 : tsz Try.prog 29 = some 1 := by kernel_rfl
theorem ty_tagg_29 : tagg Try.prog 29 = some false := by kernel_rfl
theorem ty_hasU_29 : hasU Try.prog 29 = true := by kernel_rfl
theorem ty_tby_29 : tby Try.prog 29 = some 8 := by kernel_rfl
theorem ty_isIntT_29 : isIntT Try.prog 29 = false := by kernel_rfl
theorem ty_tzero_29 : tzero Try.prog 29 = some [.nilFunc] := by kernel_rfl
theorem ty_tsz_30 : tsz Try.prog 30 = some 1 := by kernel_rfl
theorem ty_tagg_30 : tagg Try.prog 30 = some false := by kernel_rfl
theorem ty_intK_30 : intK Try.prog 30 = some .i16 := by kernel_rfl
theorem ty_hasU_30 : hasU Try.prog 30 = true := by kernel_rfl
theorem ty_tby_30 : tby Try.prog 30 = some 2 := by kernel_rfl
theorem ty_tzero_30 : tzero Try.prog 30 = some [(.int .i16 0)] := by kernel_rfl
theorem ty_tsz_31 : tsz Try.prog 31 = some 1 := by kernel_rfl
theorem ty_tagg_31 : tagg Try.prog 31 = some false := by kernel_rfl
theorem ty_hasU_31 : hasU Try.prog 31 = true := by kernel_rfl
theorem ty_tby_31 : tby Try.prog 31 = some 8 := by kernel_rfl
theorem ty_isIntT_31 : isIntT Try.prog 31 = false := by kernel_rfl
theorem ty_tzero_31 : tzero Try.prog 31 = some [.nilFunc] := by kernel_rfl
theorem ty_tsz_32 : tsz Try.prog 32 = some 2 := by kernel_rfl
theorem ty_tagg_32 : tagg Try.prog 32 = some true := by kernel_rfl
theorem ty_arE_32 : arE Try.prog 32 = none := by kernel_rfl
theorem ty_arS_32 : arS Try.prog 32 = none := by kernel_rfl
theorem ty_hasU_32 : hasU Try.prog 32 = true := by kernel_rfl
theorem ty_stPl_32 : stPl Try.prog 32 = some [(0, 1), (1, 1)] := by kernel_rfl
theorem ty_tby_32 : tby Try.prog 32 = some 16 := by kernel_rfl
theorem ty_isIntT_32 : isIntT Try.prog 32 = false := by kernel_rfl
theorem ty_flds_32 : flds Try.prog 32 = some [(0, 3), (1, 3)] := by kernel_rfl
theorem ty_tzero_32 : tzero Try.prog 32 = some [(.int .i64 0), (.int .i64 0)] := by kernel_rfl
theorem ty_fldO_32_0 : fldO Try.prog 32 0 = some 0 := by kernel_rfl
theorem ty_fldT_32_0 : fldT Try.prog 32 0 = some (3, 0) := by kernel_rfl
theorem ty_fldO_32_1 : fldO Try.prog 32 1 = some 1 := by kernel_rfl
theorem ty_fldT_32_1 : fldT Try.prog 32 1 = some (3, 1) := by kernel_rfl
theorem ty_tsz_33 : tsz Try.prog 33 = some 2 := by kernel_rfl
theorem ty_tagg_33 : tagg Try.prog 33 = some true := by kernel_rfl
theorem ty_arE_33 : arE Try.prog 33 = none := by kernel_rfl
theorem ty_arS_33 : arS Try.prog 33 = none := by kernel_rfl
theorem ty_hasU_33 : hasU Try.prog 33 = true := by kernel_rfl
theorem ty_stPl_33 : stPl Try.prog 33 = some [(0, 1), (1, 1)] := by kernel_rfl
theorem ty_tby_33 : tby Try.prog 33 = some 16 := by kernel_rfl
theorem ty_isIntT_33 : isIntT Try.prog 33 = false := by kernel_rfl
theorem ty_flds_33 : flds Try.prog 33 = some [(0, 3), (1, 3)] := by kernel_rfl
theorem ty_tzero_33 : tzero Try.prog 33 = some [(.int .i64 0), (.int .i64 0)] := by kernel_rfl
theorem ty_fldO_33_0 : fldO Try.prog 33 0 = some 0 := by kernel_rfl
theorem ty_fldT_33_0 : fldT Try.prog 33 0 = some (3, 0) := by kernel_rfl
theorem ty_fldO_33_1 : fldO Try.prog 33 1 = some 1 := by kernel_rfl
theorem ty_fldT_33_1 : fldT Try.prog 33 1 = some (3, 1) := by kernel_rfl
theorem ty_tsz_34 : tsz Try.prog 34 = some 1 := by kernel_rfl
theorem ty_tagg_34 : tagg Try.prog 34 = some false := by kernel_rfl
theorem ty_hasU_34 : hasU Try.prog 34 = true := by kernel_rfl
theorem ty_tby_34 : tby Try.prog 34 = some 0 := by kernel_rfl
theorem ty_isIntT_34 : isIntT Try.prog 34 = false := by kernel_rfl
theorem ty_tsz_35 : tsz Try.prog 35 = some 1 := by kernel_rfl
theorem ty_tagg_35 : tagg Try.prog 35 = some false := by kernel_rfl
theorem ty_hasU_35 : hasU Try.prog 35 = true := by kernel_rfl
theorem ty_tby_35 : tby Try.prog 35 = some 8 := by kernel_rfl
theorem ty_isIntT_35 : isIntT Try.prog 35 = false := by kernel_rfl
theorem ty_tzero_35 : tzero Try.prog 35 = some [.nilFunc] := by kernel_rfl
theorem ty_tsz_36 : tsz Try.prog 36 = some 1 := by kernel_rfl
theorem ty_tagg_36 : tagg Try.prog 36 = some false := by kernel_rfl
theorem ty_slE_36 : slE Try.prog 36 = some 3 := by kernel_rfl
theorem ty_slS_36 : slS Try.prog 36 = some 1 := by kernel_rfl
theorem ty_hasU_36 : hasU Try.prog 36 = true := by kernel_rfl
theorem ty_tby_36 : tby Try.prog 36 = some 24 := by kernel_rfl
theorem ty_isIntT_36 : isIntT Try.prog 36 = false := by kernel_rfl
theorem ty_tzero_36 : tzero Try.prog 36 = some [(.slice none 0 0)] := by kernel_rfl
theorem ty_tsz_37 : tsz Try.prog 37 = some 1 := by kernel_rfl
theorem ty_tagg_37 : tagg Try.prog 37 = some false := by kernel_rfl
theorem ty_hasU_37 : hasU Try.prog 37 = true := by kernel_rfl
theorem ty_tby_37 : tby Try.prog 37 = some 8 := by kernel_rfl
theorem ty_isIntT_37 : isIntT Try.prog 37 = false := by kernel_rfl
theorem ty_tzero_37 : tzero Try.prog 37 = some [.nilFunc] := by kernel_rfl
theorem ty_tsz_38 : tsz Try.prog 38 = some 1 := by kernel_rfl
theorem ty_tagg_38 : tagg Try.prog 38 = some false := by kernel_rfl
theorem ty_slE_38 : slE Try.prog 38 = some 5 := by kernel_rfl
theorem ty_slS_38 : slS Try.prog 38 = some 1 := by kernel_rfl
theorem ty_hasU_38 : hasU Try.prog 38 = true := by kernel_rfl
theorem ty_tby_38 : tby Try.prog 38 = some 24 := by kernel_rfl
theorem ty_isIntT_38 : isIntT Try.prog 38 = false := by kernel_rfl
theorem ty_tzero_38 : tzero Try.prog 38 = some [(.slice none 0 0)] := by kernel_rfl
theorem ty_tsz_39 : tsz Try.prog 39 = some 1 := by kernel_rfl
theorem ty_tagg_39 : tagg Try.prog 39 = some false := by kernel_rfl
theorem ty_hasU_39 : hasU Try.prog 39 = true := by kernel_rfl
theorem ty_tby_39 : tby Try.prog 39 = some 8 := by kernel_rfl
theorem ty_isIntT_39 : isIntT Try.prog 39 = false := by kernel_rfl
theorem ty_tzero_39 : tzero Try.prog 39 = some [.nilFunc] := by kernel_rfl
theorem ty_tsz_40 : tsz Try.prog 40 = some 1 := by kernel_rfl
theorem ty_tagg_40 : tagg Try.prog 40 = some false := by kernel_rfl
theorem ty_hasU_40 : hasU Try.prog 40 = true := by kernel_rfl
theorem ty_tby_40 : tby Try.prog 40 = some 8 := by kernel_rfl
theorem ty_isIntT_40 : isIntT Try.prog 40 = false := by kernel_rfl
theorem ty_tzero_40 : tzero Try.prog 40 = some [.nilFunc] := by kernel_rfl
theorem ty_tsz_41 : tsz Try.prog 41 = some 1 := by kernel_rfl
theorem ty_tagg_41 : tagg Try.prog 41 = some false := by kernel_rfl
theorem ty_hasU_41 : hasU Try.prog 41 = true := by kernel_rfl
theorem ty_tby_41 : tby Try.prog 41 = some 8 := by kernel_rfl
theorem ty_isIntT_41 : isIntT Try.prog 41 = false := by kernel_rfl
theorem ty_tzero_41 : tzero Try.prog 41 = some [.nilFunc] := by kernel_rfl
theorem ty_tsz_42 : tsz Try.prog 42 = some 1 := by kernel_rfl
theorem ty_tagg_42 : tagg Try.prog 42 = some false := by kernel_rfl
theorem ty_hasU_42 : hasU Try.prog 42 = true := by kernel_rfl
theorem ty_tby_42 : tby Try.prog 42 = some 8 := by kernel_rfl
theorem ty_isIntT_42 : isIntT Try.prog 42 = false := by kernel_rfl
theorem ty_tzero_42 : tzero Try.prog 42 = some [.nilFunc] := by kernel_rfl
theorem ty_tsz_43 : tsz Try.prog 43 = some 1 := by kernel_rfl
theorem ty_tagg_43 : tagg Try.prog 43 = some false := by kernel_rfl
theorem ty_hasU_43 : hasU Try.prog 43 = true := by kernel_rfl
theorem ty_tby_43 : tby Try.prog 43 = some 8 := by kernel_rfl
theorem ty_isIntT_43 : isIntT Try.prog 43 = false := by kernel_rfl
theorem ty_tzero_43 : tzero Try.prog 43 = some [.nilFunc] := by kernel_rfl
theorem ty_tsz_44 : tsz Try.prog 44 = some 1 := by kernel_rfl
theorem ty_tagg_44 : tagg Try.prog 44 = some false := by kernel_rfl
theorem ty_hasU_44 : hasU Try.prog 44 = true := by kernel_rfl
theorem ty_tby_44 : tby Try.prog 44 = some 8 := by kernel_rfl
theorem ty_isIntT_44 : isIntT Try.prog 44 = false := by kernel_rfl
theorem ty_tzero_44 : tzero Try.prog 44 = some [.nilFunc] := by kernel_rfl
theorem ty_tsz_45 : tsz Try.prog 45 = some 1 := by kernel_rfl
theorem ty_tagg_45 : tagg Try.prog 45 = some false := by kernel_rfl
theorem ty_hasU_45 : hasU Try.prog 45 = true := by kernel_rfl
theorem ty_tby_45 : tby Try.prog 45 = some 0 := by kernel_rfl
theorem ty_isIntT_45 : isIntT Try.prog 45 = false := by kernel_rfl
theorem ty_tsz_46 : tsz Try.prog 46 = some 1 := by kernel_rfl
theorem ty_tagg_46 : tagg Try.prog 46 = some false := by kernel_rfl
theorem ty_hasU_46 : hasU Try.prog 46 = true := by kernel_rfl
theorem ty_tby_46 : tby Try.prog 46 = some 8 := by kernel_rfl
theorem ty_isIntT_46 : isIntT Try.prog 46 = false := by kernel_rfl
theorem ty_tzero_46 : tzero Try.prog 46 = some [.nilFunc] := by kernel_rfl
theorem ty_tsz_47 : tsz Try.prog 47 = some 1 := by kernel_rfl
theorem ty_tagg_47 : tagg Try.prog 47 = some false := by kernel_rfl
theorem ty_hasU_47 : hasU Try.prog 47 = true := by kernel_rfl
theorem ty_tby_47 : tby Try.prog 47 = some 8 := by kernel_rfl
theorem ty_isIntT_47 : isIntT Try.prog 47 = false := by kernel_rfl
theorem ty_tzero_47 : tzero Try.prog 47 = some [.nilFunc] := by kernel_rfl
theorem ty_tsz_48 : tsz Try.prog 48 = some 1 := by kernel_rfl
theorem ty_tagg_48 : tagg Try.prog 48 = some false := by kernel_rfl
theorem ty_hasU_48 : hasU Try.prog 48 = true := by kernel_rfl
theorem ty_tby_48 : tby Try.prog 48 = some 8 := by kernel_rfl
theorem ty_isIntT_48 : isIntT Try.prog 48 = false := by kernel_rfl
theorem ty_tzero_48 : tzero Try.prog 48 = some [.nilFunc] := by kernel_rfl
theorem ty_tsz_49 : tsz Try.prog 49 = some 1 := by kernel_rfl
theorem ty_tagg_49 : tagg Try.prog 49 = some false := by kernel_rfl
theorem ty_hasU_49 : hasU Try.prog 49 = true := by kernel_rfl
theorem ty_tby_49 : tby Try.prog 49 = some 8 := by kernel_rfl
theorem ty_isIntT_49 : isIntT Try.prog 49 = false := by kernel_rfl
theorem ty_tzero_49 : tzero Try.prog 49 = some [.nilFunc] := by kernel_rfl
theorem ty_tsz_50 : tsz Try.prog 50 = some 1 := by kernel_rfl
theorem ty_tagg_50 : tagg Try.prog 50 = some false := by kernel_rfl
theorem ty_hasU_50 : hasU Try.prog 50 = true := by kernel_rfl
theorem ty_tby_50 : tby Try.prog 50 = some 8 := by kernel_rfl
theorem ty_isIntT_50 : isIntT Try.prog 50 = false := by kernel_rfl
theorem ty_tzero_50 : tzero Try.prog 50 = some [.nilFunc] := by kernel_rfl
theorem ty_tsz_51 : tsz Try.prog 51 = some 1 := by kernel_rfl
theorem ty_tagg_51 : tagg Try.prog 51 = some false := by kernel_rfl
theorem ty_hasU_51 : hasU Try.prog 51 = true := by kernel_rfl
theorem ty_tby_51 : tby Try.prog 51 = some 8 := by kernel_rfl
theorem ty_isIntT_51 : isIntT Try.prog 51 = false := by kernel_rfl
theorem ty_tzero_51 : tzero Try.prog 51 = some [.nilFunc] := by kernel_rfl
theorem ty_tsz_52 : tsz Try.prog 52 = some 1 := by kernel_rfl
theorem ty_tagg_52 : tagg Try.prog 52 = some false := by kernel_rfl
theorem ty_hasU_52 : hasU Try.prog 52 = true := by kernel_rfl
theorem ty_tby_52 : tby Try.prog 52 = some 8 := by kernel_rfl
theorem ty_isIntT_52 : isIntT Try.prog 52 = false := by kernel_rfl
theorem ty_tzero_52 : tzero Try.prog 52 = some [.nilFunc] := by kernel_rfl
theorem ty_tsz_53 : tsz Try.prog 53 = some 1 := by kernel_rfl
theorem ty_tagg_53 : tagg Try.prog 53 = some false := by kernel_rfl
theorem ty_hasU_53 : hasU Try.prog 53 = true := by kernel_rfl
theorem ty_tby_53 : tby Try.prog 53 = some 8 := by kernel_rfl
theorem ty_isIntT_53 : isIntT Try.prog 53 = false := by kernel_rfl
theorem ty_tzero_53 : tzero Try.prog 53 = some [.nilFunc] := by kernel_rfl
theorem ty_tsz_54 : tsz Try.prog 54 = some 1 := by kernel_rfl
theorem ty_tagg_54 : tagg Try.prog 54 = some false := by kernel_rfl
theorem ty_hasU_54 : hasU Try.prog 54 = true := by kernel_rfl
theorem ty_tby_54 : tby Try.prog 54 = some 8 := by kernel_rfl
theorem ty_isIntT_54 : isIntT Try.prog 54 = false := by kernel_rfl
theorem ty_tzero_54 : tzero Try.prog 54 = some [.nilFunc] := by kernel_rfl
theorem ty_tsz_55 : tsz Try.prog 55 = some 1 := by kernel_rfl
theorem ty_tagg_55 : tagg Try.prog 55 = some false := by kernel_rfl
theorem ty_hasU_55 : hasU Try.prog 55 = true := by kernel_rfl
theorem ty_tby_55 : tby Try.prog 55 = some 8 := by kernel_rfl
theorem ty_isIntT_55 : isIntT Try.prog 55 = false := by kernel_rfl
theorem ty_tzero_55 : tzero Try.prog 55 = some [.nilFunc] := by kernel_rfl
theorem ty_tsz_56 : tsz Try.prog 56 = some 1 := by kernel_rfl
theorem ty_tagg_56 : tagg Try.prog 56 = some false := by kernel_rfl
theorem ty_hasU_56 : hasU Try.prog 56 = true := by kernel_rfl
theorem ty_tby_56 : tby Try.prog 56 = some 8 := by kernel_rfl
theorem ty_isIntT_56 : isIntT Try.prog 56 = false := by kernel_rfl
theorem ty_tzero_56 : tzero Try.prog 56 = some [.nilFunc] := by kernel_rfl
theorem ty_tsz_57 : tsz Try.prog 57 = some 1 := by kernel_rfl
theorem ty_tagg_57 : tagg Try.prog 57 = some false := by kernel_rfl
theorem ty_hasU_57 : hasU Try.prog 57 = true := by kernel_rfl
theorem ty_tby_57 : tby Try.prog 57 = some 8 := by kernel_rfl
theorem ty_isIntT_57 : isIntT Try.prog 57 = false := by kernel_rfl
theorem ty_tzero_57 : tzero Try.prog 57 = some [.nilFunc] := by kernel_rfl
theorem ty_tsz_58 : tsz Try.prog 58 = some 4 := by kernel_rfl
theorem ty_tagg_58 : tagg Try.prog 58 = some true := by kernel_rfl
theorem ty_arE_58 : arE Try.prog 58 = some (2, 33) := by kernel_rfl
theorem ty_arS_58 : arS Try.prog 58 = some (2, 2) := by kernel_rfl
theorem ty_hasU_58 : hasU Try.prog 58 = true := by kernel_rfl
theorem ty_tby_58 : tby Try.prog 58 = some 32 := by kernel_rfl
theorem ty_isIntT_58 : isIntT Try.prog 58 = false := by kernel_rfl
theorem ty_tzero_58 : tzero Try.prog 58 = some [(.int .i64 0), (.int .i64 0), (.int .i64 0), (.int .i64 0)] := by kernel_rfl
theorem ty_tsz_59 : tsz Try.prog 59 = some 1 := by kernel_rfl
theorem ty_tagg_59 : tagg Try.prog 59 = some false := by kernel_rfl
theorem ty_hasU_59 : hasU Try.prog 59 = true := by kernel_rfl
theorem ty_tby_59 : tby Try.prog 59 = some 0 := by kernel_rfl
theorem ty_isIntT_59 : isIntT Try.prog 59 = false := by kernel_rfl
theorem ty_tsz_60 : tsz Try.prog 60 = some 1 := by kernel_rfl
theorem ty_tagg_60 : tagg Try.prog 60 = some false := by kernel_rfl
theorem ty_hasU_60 : hasU Try.prog 60 = true := by kernel_rfl
theorem ty_tby_60 : tby Try.prog 60 = some 8 := by kernel_rfl
theorem ty_isIntT_60 : isIntT Try.prog 60 = false := by kernel_rfl
theorem ty_tzero_60 : tzero Try.prog 60 = some [.nilFunc] := by kernel_rfl
theorem ty_tsz_61 : tsz Try.prog 61 = some 1 := by kernel_rfl
theorem ty_tagg_61 : tagg Try.prog 61 = some false := by kernel_rfl
theorem ty_slE_61 : slE Try.prog 61 = some 4 := by kernel_rfl
theorem ty_slS_61 : slS Try.prog 61 = some 1 := by kernel_rfl
theorem ty_hasU_61 : hasU Try.prog 61 = true := by kernel_rfl
theorem ty_tby_61 : tby Try.prog 61 = some 24 := by kernel_rfl
theorem ty_isIntT_61 : isIntT Try.prog 61 = false := by kernel_rfl
theorem ty_tzero_61 : tzero Try.prog 61 = some [(.slice none 0 0)] := by kernel_rfl
theorem ty_tsz_62 : tsz Try.prog 62 = some 1 := by kernel_rfl
theorem ty_tagg_62 : tagg Try.prog 62 = some false := by kernel_rfl
theorem ty_hasU_62 : hasU Try.prog 62 = true := by kernel_rfl
theorem ty_tby_62 : tby Try.prog 62 = some 8 := by kernel_rfl
theorem ty_isIntT_62 : isIntT Try.prog 62 = false := by kernel_rfl
theorem ty_tzero_62 : tzero Try.prog 62 = some [.nilFunc] := by kernel_rfl
theorem ty_tsz_63 : tsz Try.prog 63 = some 1 := by kernel_rfl
theorem ty_tagg_63 : tagg Try.prog 63 = some false := by kernel_rfl
theorem ty_hasU_63 : hasU Try.prog 63 = true := by kernel_rfl
theorem ty_tby_63 : tby Try.prog 63 = some 8 := by kernel_rfl
theorem ty_isIntT_63 : isIntT Try.prog 63 = false := by kernel_rfl
theorem ty_tzero_63 : tzero Try.prog 63 = some [.nilFunc] := by kernel_rfl
theorem ty_tsz_64 : tsz Try.prog 64 = some 1 := by kernel_rfl
theorem ty_tagg_64 : tagg Try.prog 64 = some false := by kernel_rfl
theorem ty_hasU_64 : hasU Try.prog 64 = true := by kernel_rfl
theorem ty_tby_64 : tby Try.prog 64 = some 8 := by kernel_rfl
theorem ty_isIntT_64 : isIntT Try.prog 64 = false := by kernel_rfl
theorem ty_tzero_64 : tzero Try.prog 64 = some [.nilFunc] := by kernel_rfl
theorem ty_tsz_65 : tsz Try.prog 65 = some 1 := by kernel_rfl
theorem ty_tagg_65 : tagg Try.prog 65 = some false := by kernel_rfl
theorem ty_hasU_65 : hasU Try.prog 65 = true := by kernel_rfl
theorem ty_tby_65 : tby Try.prog 65 = some 8 := by kernel_rfl
theorem ty_isIntT_65 : isIntT Try.prog 65 = false := by kernel_rfl
theorem ty_tzero_65 : tzero Try.prog 65 = some [.nilFunc] := by kernel_rfl
theorem ty_tsz_66 : tsz Try.prog 66 = some 1 := by kernel_rfl
theorem ty_tagg_66 : tagg Try.prog 66 = some false := by kernel_rfl
theorem ty_hasU_66 : hasU Try.prog 66 = true := by kernel_rfl
theorem ty_tby_66 : tby Try.prog 66 = some 8 := by kernel_rfl
theorem ty_isIntT_66 : isIntT Try.prog 66 = false := by kernel_rfl
theorem ty_tzero_66 : tzero Try.prog 66 = some [.nilFunc] := by kernel_rfl
theorem ty_tsz_67 : tsz Try.prog 67 = some 1 := by kernel_rfl
theorem ty_tagg_67 : tagg Try.prog 67 = some false := by kernel_rfl
theorem ty_hasU_67 : hasU Try.prog 67 = true := by kernel_rfl
theorem ty_tby_67 : tby Try.prog 67 = some 8 := by kernel_rfl
theorem ty_isIntT_67 : isIntT Try.prog 67 = false := by kernel_rfl
theorem ty_tzero_67 : tzero Try.prog 67 = some [(.pointer none)] := by kernel_rfl
theorem ty_tsz_68 : tsz Try.prog 68 = some 1 := by kernel_rfl
theorem ty_tagg_68 : tagg Try.prog 68 = some false := by kernel_rfl
theorem ty_hasU_68 : hasU Try.prog 68 = true := by kernel_rfl
theorem ty_tby_68 : tby Try.prog 68 = some 8 := by kernel_rfl
theorem ty_isIntT_68 : isIntT Try.prog 68 = false := by kernel_rfl
theorem ty_tzero_68 : tzero Try.prog 68 = some [.nilFunc] := by kernel_rfl
theorem ty_tsz_69 : tsz Try.prog 69 = some 1 := by kernel_rfl
theorem ty_tagg_69 : tagg Try.prog 69 = some false := by kernel_rfl
theorem ty_hasU_69 : hasU Try.prog 69 = true := by kernel_rfl
theorem ty_tby_69 : tby Try.prog 69 = some 8 := by kernel_rfl
theorem ty_isIntT_69 : isIntT Try.prog 69 = false := by kernel_rfl
theorem ty_tzero_69 : tzero Try.prog 69 = some [.nilFunc] := by kernel_rfl
theorem ty_tsz_70 : tsz Try.prog 70 = some 4 := by kernel_rfl
theorem ty_tagg_70 : tagg Try.prog 70 = some true := by kernel_rfl
theorem ty_arE_70 : arE Try.prog 70 = none := by kernel_rfl
theorem ty_arS_70 : arS Try.prog 70 = none := by kernel_rfl
theorem ty_hasU_70 : hasU Try.prog 70 = true := by kernel_rfl
theorem ty_stPl_70 : stPl Try.prog 70 = some [(0, 1), (1, 1), (2, 1), (3, 1)] := by kernel_rfl
theorem ty_tby_70 : tby Try.prog 70 = some 40 := by kernel_rfl
theorem ty_isIntT_70 : isIntT Try.prog 70 = false := by kernel_rfl
theorem ty_tzero_70 : tzero Try.prog 70 = some [(.pointer none), (.pointer none), (.pointer none), (.string ByteArray.empty)] := by kernel_rfl
theorem ty_fldO_70_0 : fldO Try.prog 70 0 = some 0 := by kernel_rfl
theorem ty_fldT_70_0 : fldT Try.prog 70 0 = some (17, 0) := by kernel_rfl
theorem ty_fldO_70_1 : fldO Try.prog 70 1 = some 1 := by kernel_rfl
theorem ty_fldT_70_1 : fldT Try.prog 70 1 = some (17, 1) := by kernel_rfl
theorem ty_fldO_70_2 : fldO Try.prog 70 2 = some 2 := by kernel_rfl
theorem ty_fldT_70_2 : fldT Try.prog 70 2 = some (17, 2) := by kernel_rfl
theorem ty_fldO_70_3 : fldO Try.prog 70 3 = some 3 := by kernel_rfl
theorem ty_fldT_70_3 : fldT Try.prog 70 3 = some (9, 3) := by kernel_rfl
theorem ty_tsz_71 : tsz Try.prog 71 = some 4 := by kernel_rfl
theorem ty_tagg_71 : tagg Try.prog 71 = some true := by kernel_rfl
theorem ty_arE_71 : arE Try.prog 71 = none := by kernel_rfl
theorem ty_arS_71 : arS Try.prog 71 = none := by kernel_rfl
theorem ty_hasU_71 : hasU Try.prog 71 = true := by kernel_rfl
theorem ty_stPl_71 : stPl Try.prog 71 = some [(0, 1), (1, 1), (2, 1), (3, 1)] := by kernel_rfl
theorem ty_tby_71 : tby Try.prog 71 = some 40 := by kernel_rfl
theorem ty_isIntT_71 : isIntT Try.prog 71 = false := by kernel_rfl
theorem ty_tzero_71 : tzero Try.prog 71 = some [(.pointer none), (.pointer none), (.pointer none), (.string ByteArray.empty)] := by kernel_rfl
theorem ty_fldO_71_0 : fldO Try.prog 71 0 = some 0 := by kernel_rfl
theorem ty_fldT_71_0 : fldT Try.prog 71 0 = some (17, 0) := by kernel_rfl
theorem ty_fldO_71_1 : fldO Try.prog 71 1 = some 1 := by kernel_rfl
theorem ty_fldT_71_1 : fldT Try.prog 71 1 = some (17, 1) := by kernel_rfl
theorem ty_fldO_71_2 : fldO Try.prog 71 2 = some 2 := by kernel_rfl
theorem ty_fldT_71_2 : fldT Try.prog 71 2 = some (17, 2) := by kernel_rfl
theorem ty_fldO_71_3 : fldO Try.prog 71 3 = some 3 := by kernel_rfl
theorem ty_fldT_71_3 : fldT Try.prog 71 3 = some (9, 3) := by kernel_rfl
theorem ty_tsz_72 : tsz Try.prog 72 = some 0 := by kernel_rfl
theorem ty_tagg_72 : tagg Try.prog 72 = some true := by kernel_rfl
theorem ty_arE_72 : arE Try.prog 72 = some (0, 16) := by kernel_rfl
theorem ty_arS_72 : arS Try.prog 72 = some (0, 1) := by kernel_rfl
theorem ty_hasU_72 : hasU Try.prog 72 = true := by kernel_rfl
theorem ty_tby_72 : tby Try.prog 72 = some 0 := by kernel_rfl
theorem ty_isIntT_72 : isIntT Try.prog 72 = false := by kernel_rfl
theorem ty_tzero_72 : tzero Try.prog 72 = some [] := by kernel_rfl
theorem ty_tsz_73 : tsz Try.prog 73 = some 0 := by kernel_rfl
theorem ty_tagg_73 : tagg Try.prog 73 = some true := by kernel_rfl
theorem ty_arE_73 : arE Try.prog 73 = none := by kernel_rfl
theorem ty_arS_73 : arS Try.prog 73 = none := by kernel_rfl
theorem ty_hasU_73 : hasU Try.prog 73 = true := by kernel_rfl
theorem ty_stPl_73 : stPl Try.prog 73 = some [(0, 0)] := by kernel_rfl
theorem ty_tby_73 : tby Try.prog 73 = some 0 := by kernel_rfl
theorem ty_isIntT_73 : isIntT Try.prog 73 = false := by kernel_rfl
theorem ty_tzero_73 : tzero Try.prog 73 = some [] := by kernel_rfl
theorem ty_fldT_73_0 : fldT Try.prog 73 0 = some (72, 0) := by kernel_rfl
theorem ty_tsz_74 : tsz Try.prog 74 = some 0 := by kernel_rfl
theorem ty_tagg_74 : tagg Try.prog 74 = some true := by kernel_rfl
theorem ty_arE_74 : arE Try.prog 74 = none := by kernel_rfl
theorem ty_arS_74 : arS Try.prog 74 = none := by kernel_rfl
theorem ty_hasU_74 : hasU Try.prog 74 = true := by kernel_rfl
theorem ty_stPl_74 : stPl Try.prog 74 = some [(0, 0)] := by kernel_rfl
theorem ty_tby_74 : tby Try.prog 74 = some 0 := by kernel_rfl
theorem ty_isIntT_74 : isIntT Try.prog 74 = false := by kernel_rfl
theorem ty_tzero_74 : tzero Try.prog 74 = some [] := by kernel_rfl
theorem ty_fldT_74_0 : fldT Try.prog 74 0 = some (72, 0) := by kernel_rfl
theorem ty_tsz_75 : tsz Try.prog 75 = some 1 := by kernel_rfl
theorem ty_tagg_75 : tagg Try.prog 75 = some false := by kernel_rfl
theorem ty_hasU_75 : hasU Try.prog 75 = true := by kernel_rfl
theorem ty_tby_75 : tby Try.prog 75 = some 8 := by kernel_rfl
theorem ty_isIntT_75 : isIntT Try.prog 75 = false := by kernel_rfl
theorem ty_tzero_75 : tzero Try.prog 75 = some [.nilFunc] := by kernel_rfl
theorem ty_tsz_76 : tsz Try.prog 76 = some 1 := by kernel_rfl
theorem ty_tagg_76 : tagg Try.prog 76 = some false := by kernel_rfl
theorem ty_intK_76 : intK Try.prog 76 = some .u32 := by kernel_rfl
theorem ty_hasU_76 : hasU Try.prog 76 = true := by kernel_rfl
theorem ty_tby_76 : tby Try.prog 76 = some 4 := by kernel_rfl
theorem ty_tzero_76 : tzero Try.prog 76 = some [(.int .u32 0)] := by kernel_rfl
theorem ty_tsz_77 : tsz Try.prog 77 = some 1 := by kernel_rfl
theorem ty_tagg_77 : tagg Try.prog 77 = some false := by kernel_rfl
theorem ty_intK_77 : intK Try.prog 77 = some .u8 := by kernel_rfl
theorem ty_hasU_77 : hasU Try.prog 77 = true := by kernel_rfl
theorem ty_tby_77 : tby Try.prog 77 = some 1 := by kernel_rfl
theorem ty_tzero_77 : tzero Try.prog 77 = some [(.int .u8 0)] := by kernel_rfl
theorem ty_tsz_78 : tsz Try.prog 78 = some 1 := by kernel_rfl
theorem ty_tagg_78 : tagg Try.prog 78 = some false := by kernel_rfl
theorem ty_intK_78 : intK Try.prog 78 = some .u8 := by kernel_rfl
theorem ty_hasU_78 : hasU Try.prog 78 = true := by kernel_rfl
theorem ty_tby_78 : tby Try.prog 78 = some 1 := by kernel_rfl
theorem ty_tzero_78 : tzero Try.prog 78 = some [(.int .u8 0)] := by kernel_rfl
theorem ty_tsz_79 : tsz Try.prog 79 = some 1 := by kernel_rfl
theorem ty_tagg_79 : tagg Try.prog 79 = some false := by kernel_rfl
theorem ty_hasU_79 : hasU Try.prog 79 = true := by kernel_rfl
theorem ty_tby_79 : tby Try.prog 79 = some 8 := by kernel_rfl
theorem ty_isIntT_79 : isIntT Try.prog 79 = false := by kernel_rfl
theorem ty_tzero_79 : tzero Try.prog 79 = some [.nilFunc] := by kernel_rfl
theorem ty_tsz_80 : tsz Try.prog 80 = some 1 := by kernel_rfl
theorem ty_tagg_80 : tagg Try.prog 80 = some false := by kernel_rfl
theorem ty_hasU_80 : hasU Try.prog 80 = true := by kernel_rfl
theorem ty_tby_80 : tby Try.prog 80 = some 8 := by kernel_rfl
theorem ty_isIntT_80 : isIntT Try.prog 80 = false := by kernel_rfl
theorem ty_tzero_80 : tzero Try.prog 80 = some [(.pointer none)] := by kernel_rfl
theorem ty_tsz_81 : tsz Try.prog 81 = some 1 := by kernel_rfl
theorem ty_tagg_81 : tagg Try.prog 81 = some false := by kernel_rfl
theorem ty_intK_81 : intK Try.prog 81 = some .i32 := by kernel_rfl
theorem ty_hasU_81 : hasU Try.prog 81 = true := by kernel_rfl
theorem ty_tby_81 : tby Try.prog 81 = some 4 := by kernel_rfl
theorem ty_tzero_81 : tzero Try.prog 81 = some [(.int .i32 0)] := by kernel_rfl
theorem ty_tsz_82 : tsz Try.prog 82 = some 1 := by kernel_rfl
theorem ty_tagg_82 : tagg Try.prog 82 = some false := by kernel_rfl
theorem ty_intK_82 : intK Try.prog 82 = some .i32 := by kernel_rfl
theorem ty_hasU_82 : hasU Try.prog 82 = true := by kernel_rfl
theorem ty_tby_82 : tby Try.prog 82 = some 4 := by kernel_rfl
theorem ty_tzero_82 : tzero Try.prog 82 = some [(.int .i32 0)] := by kernel_rfl
theorem ty_tsz_83 : tsz Try.prog 83 = some 11 := by kernel_rfl
theorem ty_tagg_83 : tagg Try.prog 83 = some true := by kernel_rfl
theorem ty_arE_83 : arE Try.prog 83 = none := by kernel_rfl
theorem ty_arS_83 : arS Try.prog 83 = none := by kernel_rfl
theorem ty_hasU_83 : hasU Try.prog 83 = true := by kernel_rfl
theorem ty_stPl_83 : stPl Try.prog 83 = some [(0, 1), (1, 1), (2, 1), (3, 1), (4, 1), (5, 1), (6, 1), (7, 1), (8, 1), (9, 1), (10, 1)] := by kernel_rfl
theorem ty_tby_83 : tby Try.prog 83 = some 48 := by kernel_rfl
theorem ty_isIntT_83 : isIntT Try.prog 83 = false := by kernel_rfl
theorem ty_tzero_83 : tzero Try.prog 83 = some [(.int .u64 0), (.int .u64 0), (.int .u32 0), (.int .u8 0), (.int .u8 0), (.int .u8 0), (.int .u8 0), .nilFunc, (.pointer none), (.int .i32 0), (.int .i32 0)] := by kernel_rfl
theorem ty_fldO_83_0 : fldO Try.prog 83 0 = some 0 := by kernel_rfl
theorem ty_fldT_83_0 : fldT Try.prog 83 0 = some (12, 0) := by kernel_rfl
theorem ty_fldO_83_1 : fldO Try.prog 83 1 = some 1 := by kernel_rfl
theorem ty_fldT_83_1 : fldT Try.prog 83 1 = some (12, 1) := by kernel_rfl
theorem ty_fldO_83_2 : fldO Try.prog 83 2 = some 2 := by kernel_rfl
theorem ty_fldT_83_2 : fldT Try.prog 83 2 = some (76, 2) := by kernel_rfl
theorem ty_fldO_83_3 : fldO Try.prog 83 3 = some 3 := by kernel_rfl
theorem ty_fldT_83_3 : fldT Try.prog 83 3 = some (77, 3) := by kernel_rfl
theorem ty_fldO_83_4 : fldO Try.prog 83 4 = some 4 := by kernel_rfl
theorem ty_fldT_83_4 : fldT Try.prog 83 4 = some (5, 4) := by kernel_rfl
theorem ty_fldO_83_5 : fldO Try.prog 83 5 = some 5 := by kernel_rfl
theorem ty_fldT_83_5 : fldT Try.prog 83 5 = some (5, 5) := by kernel_rfl
theorem ty_fldO_83_6 : fldO Try.prog 83 6 = some 6 := by kernel_rfl
theorem ty_fldT_83_6 : fldT Try.prog 83 6 = some (78, 6) := by kernel_rfl
theorem ty_fldO_83_7 : fldO Try.prog 83 7 = some 7 := by kernel_rfl
theorem ty_fldT_83_7 : fldT Try.prog 83 7 = some (79, 7) := by kernel_rfl
theorem ty_tsz_84 : tsz Try.prog 84 = some 11 := by kernel_rfl
theorem ty_tagg_84 : tagg Try.prog 84 = some true := by kernel_rfl
theorem ty_arE_84 : arE Try.prog 84 = none := by kernel_rfl
theorem ty_arS_84 : arS Try.prog 84 = none := by kernel_rfl
theorem ty_hasU_84 : hasU Try.prog 84 = true := by kernel_rfl
theorem ty_stPl_84 : stPl Try.prog 84 = some [(0, 1), (1, 1), (2, 1), (3, 1), (4, 1), (5, 1), (6, 1), (7, 1), (8, 1), (9, 1), (10, 1)] := by kernel_rfl
theorem ty_tby_84 : tby Try.prog 84 = some 48 := by kernel_rfl
theorem ty_isIntT_84 : isIntT Try.prog 84 = false := by kernel_rfl
theorem ty_tzero_84 : tzero Try.prog 84 = some [(.int .u64 0), (.int .u64 0), (.int .u32 0), (.int .u8 0), (.int .u8 0), (.int .u8 0), (.int .u8 0), .nilFunc, (.pointer none), (.int .i32 0), (.int .i32 0)] := by kernel_rfl
theorem ty_fldO_84_0 : fldO Try.prog 84 0 = some 0 := by kernel_rfl
theorem ty_fldT_84_0 : fldT Try.prog 84 0 = some (12, 0) := by kernel_rfl
theorem ty_fldO_84_1 : fldO Try.prog 84 1 = some 1 := by kernel_rfl
theorem ty_fldT_84_1 : fldT Try.prog 84 1 = some (12, 1) := by kernel_rfl
theorem ty_fldO_84_2 : fldO Try.prog 84 2 = some 2 := by kernel_rfl
theorem ty_fldT_84_2 : fldT Try.prog 84 2 = some (76, 2) := by kernel_rfl
theorem ty_fldO_84_3 : fldO Try.prog 84 3 = some 3 := by kernel_rfl
theorem ty_fldT_84_3 : fldT Try.prog 84 3 = some (77, 3) := by kernel_rfl
theorem ty_fldO_84_4 : fldO Try.prog 84 4 = some 4 := by kernel_rfl
theorem ty_fldT_84_4 : fldT Try.prog 84 4 = some (5, 4) := by kernel_rfl
theorem ty_fldO_84_5 : fldO Try.prog 84 5 = some 5 := by kernel_rfl
theorem ty_fldT_84_5 : fldT Try.prog 84 5 = some (5, 5) := by kernel_rfl
theorem ty_fldO_84_6 : fldO Try.prog 84 6 = some 6 := by kernel_rfl
theorem ty_fldT_84_6 : fldT Try.prog 84 6 = some (78, 6) := by kernel_rfl
theorem ty_fldO_84_7 : fldO Try.prog 84 7 = some 7 := by kernel_rfl
theorem ty_fldT_84_7 : fldT Try.prog 84 7 = some (79, 7) := by kernel_rfl
theorem ty_tsz_85 : tsz Try.prog 85 = some 1 := by kernel_rfl
theorem ty_tagg_85 : tagg Try.prog 85 = some false := by kernel_rfl
theorem ty_hasU_85 : hasU Try.prog 85 = true := by kernel_rfl
theorem ty_tby_85 : tby Try.prog 85 = some 8 := by kernel_rfl
theorem ty_isIntT_85 : isIntT Try.prog 85 = false := by kernel_rfl
theorem ty_tzero_85 : tzero Try.prog 85 = some [(.pointer none)] := by kernel_rfl
theorem body_2 : bodyB Try.prog 2 = true := by kernel_rfl
theorem body_3 : bodyB Try.prog 3 = true := by kernel_rfl
theorem body_4 : bodyB Try.prog 4 = true := by kernel_rfl
theorem body_5 : bodyB Try.prog 5 = true := by kernel_rfl
theorem body_6 : bodyB Try.prog 6 = true := by kernel_rfl
theorem body_7 : bodyB Try.prog 7 = true := by kernel_rfl
theorem body_8 : bodyB Try.prog 8 = true := by kernel_rfl
theorem body_9 : bodyB Try.prog 9 = true := by kernel_rfl
theorem body_10 : bodyB Try.prog 10 = true := by kernel_rfl
theorem body_11 : bodyB Try.prog 11 = true := by kernel_rfl
theorem body_12 : bodyB Try.prog 12 = true := by kernel_rfl
theorem body_13 : bodyB Try.prog 13 = true := by kernel_rfl
theorem body_14 : bodyB Try.prog 14 = true := by kernel_rfl
theorem body_15 : bodyB Try.prog 15 = true := by kernel_rfl
theorem body_16 : bodyB Try.prog 16 = true := by kernel_rfl
theorem body_17 : bodyB Try.prog 17 = true := by kernel_rfl
theorem body_18 : bodyB Try.prog 18 = true := by kernel_rfl
theorem body_19 : bodyB Try.prog 19 = true := by kernel_rfl
theorem body_20 : bodyB Try.prog 20 = true := by kernel_rfl
theorem body_21 : bodyB Try.prog 21 = true := by kernel_rfl
theorem body_22 : bodyB Try.prog 22 = true := by kernel_rfl
theorem body_23 : bodyB Try.prog 23 = true := by kernel_rfl
theorem body_24 : bodyB Try.prog 24 = true := by kernel_rfl
theorem body_25 : bodyB Try.prog 25 = true := by kernel_rfl
theorem body_26 : bodyB Try.prog 26 = true := by kernel_rfl
theorem body_27 : bodyB Try.prog 27 = true := by kernel_rfl
theorem body_28 : bodyB Try.prog 28 = true := by kernel_rfl
theorem body_29 : bodyB Try.prog 29 = true := by kernel_rfl
theorem body_30 : bodyB Try.prog 30 = true := by kernel_rfl
theorem body_31 : bodyB Try.prog 31 = true := by kernel_rfl
theorem body_32 : bodyB Try.prog 32 = true := by kernel_rfl
theorem body_33 : bodyB Try.prog 33 = true := by kernel_rfl
theorem body_34 : bodyB Try.prog 34 = true := by kernel_rfl
theorem body_35 : bodyB Try.prog 35 = true := by kernel_rfl
theorem body_36 : bodyB Try.prog 36 = true := by kernel_rfl
theorem body_37 : bodyB Try.prog 37 = true := by kernel_rfl
theorem body_38 : bodyB Try.prog 38 = true := by kernel_rfl
theorem body_39 : bodyB Try.prog 39 = true := by kernel_rfl
theorem body_40 : bodyB Try.prog 40 = true := by kernel_rfl
theorem body_42 : bodyB Try.prog 42 = true := by kernel_rfl
theorem body_43 : bodyB Try.prog 43 = true := by kernel_rfl
theorem body_44 : bodyB Try.prog 44 = true := by kernel_rfl
theorem body_45 : bodyB Try.prog 45 = true := by kernel_rfl
attribute [go_sem] ty_tsz_0 ty_tagg_0 ty_hasU_0 ty_tby_0 ty_isIntT_0 ty_tsz_1 ty_tagg_1 ty_hasU_1 ty_tby_1 ty_isIntT_1 ty_tzero_1 ty_tsz_2 ty_tagg_2 ty_intK_2 ty_hasU_2 ty_tby_2 ty_tzero_2 ty_tsz_3 ty_tagg_3 ty_intK_3 ty_hasU_3 ty_tby_3 ty_tzero_3 ty_tsz_4 ty_tagg_4 ty_hasU_4 ty_isBoolT_4 ty_tby_4 ty_isIntT_4 ty_tzero_4 ty_tsz_5 ty_tagg_5 ty_intK_5 ty_hasU_5 ty_tby_5 ty_tzero_5 ty_tsz_6 ty_tagg_6 ty_intK_6 ty_hasU_6
attribute [go_sem] ty_tby_6 ty_tzero_6 ty_tsz_7 ty_tagg_7 ty_arE_7 ty_arS_7 ty_hasU_7 ty_stPl_7 ty_tby_7 ty_isIntT_7 ty_flds_7 ty_tzero_7 ty_fldO_7_0 ty_fldT_7_0 ty_fldO_7_1 ty_fldT_7_1 ty_fldO_7_2 ty_fldT_7_2 ty_fldO_7_3 ty_fldT_7_3 ty_tsz_8 ty_tagg_8 ty_arE_8 ty_arS_8 ty_hasU_8 ty_stPl_8 ty_tby_8 ty_isIntT_8 ty_flds_8 ty_tzero_8 ty_fldO_8_0 ty_fldT_8_0 ty_fldO_8_1 ty_fldT_8_1 ty_fldO_8_2 ty_fldT_8_2 ty_fldO_8_3 ty_fldT_8_3 ty_tsz_9 ty_tagg_9
attribute [go_sem] ty_isStr_9 ty_hasU_9 ty_tby_9 ty_isIntT_9 ty_tzero_9 ty_tsz_10 ty_tagg_10 ty_isStr_10 ty_hasU_10 ty_tby_10 ty_isIntT_10 ty_tzero_10 ty_tsz_11 ty_tagg_11 ty_isStr_11 ty_hasU_11 ty_tby_11 ty_isIntT_11 ty_tzero_11 ty_tsz_12 ty_tagg_12 ty_intK_12 ty_hasU_12 ty_tby_12 ty_tzero_12 ty_tsz_13 ty_tagg_13 ty_arE_13 ty_arS_13 ty_hasU_13 ty_stPl_13 ty_tby_13 ty_isIntT_13 ty_tzero_13 ty_fldO_13_0 ty_fldT_13_0 ty_fldO_13_1 ty_fldT_13_1 ty_tsz_14 ty_tagg_14
attribute [go_sem] ty_arE_14 ty_arS_14 ty_hasU_14 ty_stPl_14 ty_tby_14 ty_isIntT_14 ty_tzero_14 ty_fldO_14_0 ty_fldT_14_0 ty_fldO_14_1 ty_fldT_14_1 ty_tsz_15 ty_tagg_15 ty_hasU_15 ty_tby_15 ty_isIntT_15 ty_tzero_15 ty_tsz_16 ty_tagg_16 ty_hasU_16 ty_tby_16 ty_isIntT_16 ty_tzero_16 ty_tsz_17 ty_tagg_17 ty_hasU_17 ty_tby_17 ty_isIntT_17 ty_tzero_17 ty_tsz_18 ty_tagg_18 ty_arE_18 ty_arS_18 ty_hasU_18 ty_stPl_18 ty_tby_18 ty_isIntT_18 ty_tzero_18 ty_fldO_18_0 ty_fldT_18_0
attribute [go_sem] ty_tsz_19 ty_tagg_19 ty_arE_19 ty_arS_19 ty_hasU_19 ty_stPl_19 ty_tby_19 ty_isIntT_19 ty_tzero_19 ty_fldO_19_0 ty_fldT_19_0 ty_tsz_20 ty_tagg_20 ty_hasU_20 ty_tby_20 ty_isIntT_20 ty_tzero_20 ty_tsz_21 ty_tagg_21 ty_intK_21 ty_hasU_21 ty_tby_21 ty_tzero_21 ty_tsz_22 ty_tagg_22 ty_slE_22 ty_slS_22 ty_hasU_22 ty_tby_22 ty_isIntT_22 ty_tzero_22 ty_tsz_23 ty_tagg_23 ty_hasU_23 ty_tby_23 ty_isIntT_23 ty_tzero_23 ty_tsz_24 ty_tagg_24 ty_slE_24
attribute [go_sem] ty_slS_24 ty_hasU_24 ty_tby_24 ty_isIntT_24 ty_tzero_24 ty_tsz_25 ty_tagg_25 ty_arE_25 ty_arS_25 ty_hasU_25 ty_stPl_25 ty_tby_25 ty_isIntT_25 ty_flds_25 ty_tzero_25 ty_fldO_25_0 ty_fldT_25_0 ty_fldO_25_1 ty_fldT_25_1 ty_tsz_26 ty_tagg_26 ty_arE_26 ty_arS_26 ty_hasU_26 ty_stPl_26 ty_tby_26 ty_isIntT_26 ty_flds_26 ty_tzero_26 ty_fldO_26_0 ty_fldT_26_0 ty_fldO_26_1 ty_fldT_26_1 ty_tsz_27 ty_tagg_27 ty_intK_27 ty_hasU_27 ty_tby_27 ty_tzero_27 ty_tsz_28
attribute [go_sem] ty_tagg_28 ty_hasU_28 ty_tby_28 ty_isIntT_28 ty_tsz_29 ty_tagg_29 ty_hasU_29 ty_tby_29 ty_isIntT_29 ty_tzero_29 ty_tsz_30 ty_tagg_30 ty_intK_30 ty_hasU_30 ty_tby_30 ty_tzero_30 ty_tsz_31 ty_tagg_31 ty_hasU_31 ty_tby_31 ty_isIntT_31 ty_tzero_31 ty_tsz_32 ty_tagg_32 ty_arE_32 ty_arS_32 ty_hasU_32 ty_stPl_32 ty_tby_32 ty_isIntT_32 ty_flds_32 ty_tzero_32 ty_fldO_32_0 ty_fldT_32_0 ty_fldO_32_1 ty_fldT_32_1 ty_tsz_33 ty_tagg_33 ty_arE_33 ty_arS_33
attribute [go_sem] ty_hasU_33 ty_stPl_33 ty_tby_33 ty_isIntT_33 ty_flds_33 ty_tzero_33 ty_fldO_33_0 ty_fldT_33_0 ty_fldO_33_1 ty_fldT_33_1 ty_tsz_34 ty_tagg_34 ty_hasU_34 ty_tby_34 ty_isIntT_34 ty_tsz_35 ty_tagg_35 ty_hasU_35 ty_tby_35 ty_isIntT_35 ty_tzero_35 ty_tsz_36 ty_tagg_36 ty_slE_36 ty_slS_36 ty_hasU_36 ty_tby_36 ty_isIntT_36 ty_tzero_36 ty_tsz_37 ty_tagg_37 ty_hasU_37 ty_tby_37 ty_isIntT_37 ty_tzero_37 ty_tsz_38 ty_tagg_38 ty_slE_38 ty_slS_38 ty_hasU_38
attribute [go_sem] ty_tby_38 ty_isIntT_38 ty_tzero_38 ty_tsz_39 ty_tagg_39 ty_hasU_39 ty_tby_39 ty_isIntT_39 ty_tzero_39 ty_tsz_40 ty_tagg_40 ty_hasU_40 ty_tby_40 ty_isIntT_40 ty_tzero_40 ty_tsz_41 ty_tagg_41 ty_hasU_41 ty_tby_41 ty_isIntT_41 ty_tzero_41 ty_tsz_42 ty_tagg_42 ty_hasU_42 ty_tby_42 ty_isIntT_42 ty_tzero_42 ty_tsz_43 ty_tagg_43 ty_hasU_43 ty_tby_43 ty_isIntT_43 ty_tzero_43 ty_tsz_44 ty_tagg_44 ty_hasU_44 ty_tby_44 ty_isIntT_44 ty_tzero_44 ty_tsz_45
attribute [go_sem] ty_tagg_45 ty_hasU_45 ty_tby_45 ty_isIntT_45 ty_tsz_46 ty_tagg_46 ty_hasU_46 ty_tby_46 ty_isIntT_46 ty_tzero_46 ty_tsz_47 ty_tagg_47 ty_hasU_47 ty_tby_47 ty_isIntT_47 ty_tzero_47 ty_tsz_48 ty_tagg_48 ty_hasU_48 ty_tby_48 ty_isIntT_48 ty_tzero_48 ty_tsz_49 ty_tagg_49 ty_hasU_49 ty_tby_49 ty_isIntT_49 ty_tzero_49 ty_tsz_50 ty_tagg_50 ty_hasU_50 ty_tby_50 ty_isIntT_50 ty_tzero_50 ty_tsz_51 ty_tagg_51 ty_hasU_51 ty_tby_51 ty_isIntT_51 ty_tzero_51
attribute [go_sem] ty_tsz_52 ty_tagg_52 ty_hasU_52 ty_tby_52 ty_isIntT_52 ty_tzero_52 ty_tsz_53 ty_tagg_53 ty_hasU_53 ty_tby_53 ty_isIntT_53 ty_tzero_53 ty_tsz_54 ty_tagg_54 ty_hasU_54 ty_tby_54 ty_isIntT_54 ty_tzero_54 ty_tsz_55 ty_tagg_55 ty_hasU_55 ty_tby_55 ty_isIntT_55 ty_tzero_55 ty_tsz_56 ty_tagg_56 ty_hasU_56 ty_tby_56 ty_isIntT_56 ty_tzero_56 ty_tsz_57 ty_tagg_57 ty_hasU_57 ty_tby_57 ty_isIntT_57 ty_tzero_57 ty_tsz_58 ty_tagg_58 ty_arE_58 ty_arS_58
attribute [go_sem] ty_hasU_58 ty_tby_58 ty_isIntT_58 ty_tzero_58 ty_tsz_59 ty_tagg_59 ty_hasU_59 ty_tby_59 ty_isIntT_59 ty_tsz_60 ty_tagg_60 ty_hasU_60 ty_tby_60 ty_isIntT_60 ty_tzero_60 ty_tsz_61 ty_tagg_61 ty_slE_61 ty_slS_61 ty_hasU_61 ty_tby_61 ty_isIntT_61 ty_tzero_61 ty_tsz_62 ty_tagg_62 ty_hasU_62 ty_tby_62 ty_isIntT_62 ty_tzero_62 ty_tsz_63 ty_tagg_63 ty_hasU_63 ty_tby_63 ty_isIntT_63 ty_tzero_63 ty_tsz_64 ty_tagg_64 ty_hasU_64 ty_tby_64 ty_isIntT_64
attribute [go_sem] ty_tzero_64 ty_tsz_65 ty_tagg_65 ty_hasU_65 ty_tby_65 ty_isIntT_65 ty_tzero_65 ty_tsz_66 ty_tagg_66 ty_hasU_66 ty_tby_66 ty_isIntT_66 ty_tzero_66 ty_tsz_67 ty_tagg_67 ty_hasU_67 ty_tby_67 ty_isIntT_67 ty_tzero_67 ty_tsz_68 ty_tagg_68 ty_hasU_68 ty_tby_68 ty_isIntT_68 ty_tzero_68 ty_tsz_69 ty_tagg_69 ty_hasU_69 ty_tby_69 ty_isIntT_69 ty_tzero_69 ty_tsz_70 ty_tagg_70 ty_arE_70 ty_arS_70 ty_hasU_70 ty_stPl_70 ty_tby_70 ty_isIntT_70 ty_tzero_70
attribute [go_sem] ty_fldO_70_0 ty_fldT_70_0 ty_fldO_70_1 ty_fldT_70_1 ty_fldO_70_2 ty_fldT_70_2 ty_fldO_70_3 ty_fldT_70_3 ty_tsz_71 ty_tagg_71 ty_arE_71 ty_arS_71 ty_hasU_71 ty_stPl_71 ty_tby_71 ty_isIntT_71 ty_tzero_71 ty_fldO_71_0 ty_fldT_71_0 ty_fldO_71_1 ty_fldT_71_1 ty_fldO_71_2 ty_fldT_71_2 ty_fldO_71_3 ty_fldT_71_3 ty_tsz_72 ty_tagg_72 ty_arE_72 ty_arS_72 ty_hasU_72 ty_tby_72 ty_isIntT_72 ty_tzero_72 ty_tsz_73 ty_tagg_73 ty_arE_73 ty_arS_73 ty_hasU_73 ty_stPl_73 ty_tby_73
attribute [go_sem] ty_isIntT_73 ty_tzero_73 ty_fldT_73_0 ty_tsz_74 ty_tagg_74 ty_arE_74 ty_arS_74 ty_hasU_74 ty_stPl_74 ty_tby_74 ty_isIntT_74 ty_tzero_74 ty_fldT_74_0 ty_tsz_75 ty_tagg_75 ty_hasU_75 ty_tby_75 ty_isIntT_75 ty_tzero_75 ty_tsz_76 ty_tagg_76 ty_intK_76 ty_hasU_76 ty_tby_76 ty_tzero_76 ty_tsz_77 ty_tagg_77 ty_intK_77 ty_hasU_77 ty_tby_77 ty_tzero_77 ty_tsz_78 ty_tagg_78 ty_intK_78 ty_hasU_78 ty_tby_78 ty_tzero_78 ty_tsz_79 ty_tagg_79 ty_hasU_79
attribute [go_sem] ty_tby_79 ty_isIntT_79 ty_tzero_79 ty_tsz_80 ty_tagg_80 ty_hasU_80 ty_tby_80 ty_isIntT_80 ty_tzero_80 ty_tsz_81 ty_tagg_81 ty_intK_81 ty_hasU_81 ty_tby_81 ty_tzero_81 ty_tsz_82 ty_tagg_82 ty_intK_82 ty_hasU_82 ty_tby_82 ty_tzero_82 ty_tsz_83 ty_tagg_83 ty_arE_83 ty_arS_83 ty_hasU_83 ty_stPl_83 ty_tby_83 ty_isIntT_83 ty_tzero_83 ty_fldO_83_0 ty_fldT_83_0 ty_fldO_83_1 ty_fldT_83_1 ty_fldO_83_2 ty_fldT_83_2 ty_fldO_83_3 ty_fldT_83_3 ty_fldO_83_4 ty_fldT_83_4
attribute [go_sem] ty_fldO_83_5 ty_fldT_83_5 ty_fldO_83_6 ty_fldT_83_6 ty_fldO_83_7 ty_fldT_83_7 ty_tsz_84 ty_tagg_84 ty_arE_84 ty_arS_84 ty_hasU_84 ty_stPl_84 ty_tby_84 ty_isIntT_84 ty_tzero_84 ty_fldO_84_0 ty_fldT_84_0 ty_fldO_84_1 ty_fldT_84_1 ty_fldO_84_2 ty_fldT_84_2 ty_fldO_84_3 ty_fldT_84_3 ty_fldO_84_4 ty_fldT_84_4 ty_fldO_84_5 ty_fldT_84_5 ty_fldO_84_6 ty_fldT_84_6 ty_fldO_84_7 ty_fldT_84_7 ty_tsz_85 ty_tagg_85 ty_hasU_85 ty_tby_85 ty_isIntT_85 ty_tzero_85
theorem mixed : Try.prog.follows .mixedOrders = true := by kernel_rfl
end Go.Proofs.Ytdannmfdenlikaa.Am
