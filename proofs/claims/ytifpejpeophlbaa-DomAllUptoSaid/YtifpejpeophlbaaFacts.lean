/- What the operations of the code ask of the tables of types and functions. -/
import Derived.Test.YtifpejpeophlbaaProg
import Derived.Test.YtifpejpeophlbaaS23
namespace Go.Proofs.Ytifpejpeophlbaa
open Go.Sep
theorem ag_22 : ag Try.prog 22 = some (false, 1) := by kernel_rfl
theorem ag_26 : ag Try.prog 26 = some (false, 1) := by kernel_rfl
theorem ag_3 : ag Try.prog 3 = some (false, 1) := by kernel_rfl
theorem ag_31 : ag Try.prog 31 = some (false, 1) := by kernel_rfl
theorem ag_4 : ag Try.prog 4 = some (false, 1) := by kernel_rfl
theorem bd_43 : bdT Try.prog 43 = some ([.bool false, .slice none 0 0, .slice none 0 0, .slice none 0 0, .slice none 0 0, .slice none 0 0], [(0, 1), (1, 1), (2, 1), (3, 1), (4, 1), (5, 1)]) := by kernel_rfl
theorem bd_50 : bdT Try.prog 50 = some ([.int .i64 0, .int .i64 0], [(0, 1), (1, 1)]) := by kernel_rfl
theorem fo_50_0 : fldOff Try.prog 50 0 = some 0 := by kernel_rfl
theorem fo_50_1 : fldOff Try.prog 50 1 = some 1 := by kernel_rfl
theorem ui_3 : Try.prog.underlying 3 = some (.int .i64) := by kernel_rfl
theorem mt_48 : Try.prog.underlying 48 = some (.map 3 3) := by kernel_rfl
theorem ok_10 : calleeOk Try.prog 10 = true := by kernel_rfl
theorem ok_11 : calleeOk Try.prog 11 = true := by kernel_rfl
theorem ok_12 : calleeOk Try.prog 12 = true := by kernel_rfl
theorem ok_13 : calleeOk Try.prog 13 = true := by kernel_rfl
theorem ok_14 : calleeOk Try.prog 14 = true := by kernel_rfl
theorem ok_15 : calleeOk Try.prog 15 = true := by kernel_rfl
theorem ok_16 : calleeOk Try.prog 16 = true := by kernel_rfl
theorem ok_17 : calleeOk Try.prog 17 = true := by kernel_rfl
theorem ok_18 : calleeOk Try.prog 18 = true := by kernel_rfl
theorem ok_19 : calleeOk Try.prog 19 = true := by kernel_rfl
theorem ok_20 : calleeOk Try.prog 20 = true := by kernel_rfl
theorem ok_21 : calleeOk Try.prog 21 = true := by kernel_rfl
theorem ok_22 : calleeOk Try.prog 22 = true := by kernel_rfl
theorem ok_23 : calleeOk Try.prog 23 = true := by kernel_rfl
theorem ok_24 : calleeOk Try.prog 24 = true := by kernel_rfl
theorem ok_25 : calleeOk Try.prog 25 = true := by kernel_rfl
theorem ok_26 : calleeOk Try.prog 26 = true := by kernel_rfl
theorem ok_27 : calleeOk Try.prog 27 = true := by kernel_rfl
theorem ok_28 : calleeOk Try.prog 28 = true := by kernel_rfl
theorem ok_29 : calleeOk Try.prog 29 = true := by kernel_rfl
theorem ok_30 : calleeOk Try.prog 30 = true := by kernel_rfl
theorem ok_31 : calleeOk Try.prog 31 = true := by kernel_rfl
theorem ok_32 : calleeOk Try.prog 32 = true := by kernel_rfl
theorem ok_33 : calleeOk Try.prog 33 = true := by kernel_rfl
theorem sl_22 : slT Try.prog 22 = some (31, 1, 24) := by kernel_rfl
theorem sl_26 : slT Try.prog 26 = some (4, 1, 1) := by kernel_rfl
theorem sl_31 : slT Try.prog 31 = some (3, 1, 8) := by kernel_rfl
theorem sl_38 : slT Try.prog 38 = some (22, 1, 24) := by kernel_rfl
theorem sl_41 : slT Try.prog 41 = some (26, 1, 24) := by kernel_rfl
theorem sl_51 : slT Try.prog 51 = some (50, 2, 16) := by kernel_rfl
theorem zr_22 : zr Try.prog 22 = some (.slice none 0 0) := by kernel_rfl
theorem zr_26 : zr Try.prog 26 = some (.slice none 0 0) := by kernel_rfl
theorem zr_3 : zr Try.prog 3 = some (.int .i64 0) := by kernel_rfl
theorem zr_31 : zr Try.prog 31 = some (.slice none 0 0) := by kernel_rfl
theorem zr_4 : zr Try.prog 4 = some (.bool false) := by kernel_rfl
theorem zr_50 : zr Try.prog 50 = some (.agg #[.int .i64 0, .int .i64 0]) := by kernel_rfl
theorem ag_41 : ag Try.prog 41 = some (false, 1) := by kernel_rfl
theorem fo_43_0 : fldOff Try.prog 43 0 = some 0 := by kernel_rfl
theorem fo_43_1 : fldOff Try.prog 43 1 = some 1 := by kernel_rfl
theorem fo_43_2 : fldOff Try.prog 43 2 = some 2 := by kernel_rfl
theorem fo_43_3 : fldOff Try.prog 43 3 = some 3 := by kernel_rfl
theorem fo_43_4 : fldOff Try.prog 43 4 = some 4 := by kernel_rfl
theorem fo_43_5 : fldOff Try.prog 43 5 = some 5 := by kernel_rfl
theorem ok_34 : calleeOk Try.prog 34 = true := by kernel_rfl
theorem ok_35 : calleeOk Try.prog 35 = true := by kernel_rfl
theorem mixed : Try.prog.follows .mixedOrders = true := by kernel_rfl
end Go.Proofs.Ytifpejpeophlbaa
