/- What the operations of the code ask of the tables of types and functions. -/
import Derived.Test.YtengcfamhoppbaaProg
import Derived.Test.YtengcfamhoppbaaS14
namespace Go.Proofs.Ytengcfamhoppbaa
open Go.Sep
theorem ag_22 : ag Try.prog 22 = some (false, 1) := by kernel_rfl
theorem ag_25 : ag Try.prog 25 = some (false, 1) := by kernel_rfl
theorem ag_3 : ag Try.prog 3 = some (false, 1) := by kernel_rfl
theorem ag_35 : ag Try.prog 35 = some (true, 3) := by kernel_rfl
theorem ag_37 : ag Try.prog 37 = some (true, 2) := by kernel_rfl
theorem ag_47 : ag Try.prog 47 = some (false, 1) := by kernel_rfl
theorem bd_35 : bdT Try.prog 35 = some ([.int .i64 0, .int .i64 0, .int .i64 0], [(0, 1), (1, 1), (2, 1)]) := by kernel_rfl
theorem bd_37 : bdT Try.prog 37 = some ([.int .i64 0, .int .i64 0], [(0, 1), (1, 1)]) := by kernel_rfl
theorem bd_49 : bdT Try.prog 49 = some ([.slice none 0 0, .slice none 0 0, .slice none 0 0, .int .i64 0], [(0, 1), (1, 1), (2, 1), (3, 1)]) := by kernel_rfl
theorem fo_35_0 : fldOff Try.prog 35 0 = some 0 := by kernel_rfl
theorem fo_35_1 : fldOff Try.prog 35 1 = some 1 := by kernel_rfl
theorem fo_35_2 : fldOff Try.prog 35 2 = some 2 := by kernel_rfl
theorem fo_37_0 : fldOff Try.prog 37 0 = some 0 := by kernel_rfl
theorem fo_37_1 : fldOff Try.prog 37 1 = some 1 := by kernel_rfl
theorem fo_42_0 : fldOff Try.prog 42 0 = some 0 := by kernel_rfl
theorem fo_42_1 : fldOff Try.prog 42 1 = some 1 := by kernel_rfl
theorem fo_49_0 : fldOff Try.prog 49 0 = some 0 := by kernel_rfl
theorem fo_49_1 : fldOff Try.prog 49 1 = some 1 := by kernel_rfl
theorem fo_49_2 : fldOff Try.prog 49 2 = some 2 := by kernel_rfl
theorem fo_49_3 : fldOff Try.prog 49 3 = some 3 := by kernel_rfl
theorem is_35 : intS Try.prog 35 = true := by kernel_rfl
theorem nf_35 : nfields Try.prog 35 = 3 := by kernel_rfl
theorem is_37 : intS Try.prog 37 = true := by kernel_rfl
theorem nf_37 : nfields Try.prog 37 = 2 := by kernel_rfl
theorem ui_3 : Try.prog.underlying 3 = some (.int .i64) := by kernel_rfl
theorem mt_53 : Try.prog.underlying 53 = some (.map 3 3) := by kernel_rfl
theorem ok_10 : calleeOk Try.prog 10 = true := by kernel_rfl
theorem ok_11 : calleeOk Try.prog 11 = true := by kernel_rfl
theorem ok_12 : calleeOk Try.prog 12 = true := by kernel_rfl
theorem ok_13 : calleeOk Try.prog 13 = true := by kernel_rfl
theorem ok_14 : calleeOk Try.prog 14 = true := by kernel_rfl
theorem ok_15 : calleeOk Try.prog 15 = true := by kernel_rfl
theorem ok_16 : calleeOk Try.prog 16 = true := by kernel_rfl
theorem ok_17 : calleeOk Try.prog 17 = true := by kernel_rfl
theorem ok_18 : calleeOk Try.prog 18 = true := by kernel_rfl
theorem ok_19 : calleeOk Try.prog 19 = true := by kernel_rfl
theorem ok_20 : calleeOk Try.prog 20 = true := by kernel_rfl
theorem ok_21 : calleeOk Try.prog 21 = true := by kernel_rfl
theorem ok_22 : calleeOk Try.prog 22 = true := by kernel_rfl
theorem ok_23 : calleeOk Try.prog 23 = true := by kernel_rfl
theorem ok_25 : calleeOk Try.prog 25 = true := by kernel_rfl
theorem ok_26 : calleeOk Try.prog 26 = true := by kernel_rfl
theorem ok_9 : calleeOk Try.prog 9 = true := by kernel_rfl
theorem sl_22 : slT Try.prog 22 = some (35, 3, 24) := by kernel_rfl
theorem sl_25 : slT Try.prog 25 = some (37, 2, 16) := by kernel_rfl
theorem sl_39 : slT Try.prog 39 = some (42, 2, 32) := by kernel_rfl
theorem sl_40 : slT Try.prog 40 = some (25, 1, 24) := by kernel_rfl
theorem sl_47 : slT Try.prog 47 = some (3, 1, 8) := by kernel_rfl
theorem ar_52 : arT Try.prog 52 = some (8, 1) := by kernel_rfl
theorem zr_25 : zr Try.prog 25 = some (.slice none 0 0) := by kernel_rfl
theorem zr_3 : zr Try.prog 3 = some (.int .i64 0) := by kernel_rfl
theorem zr_35 : zr Try.prog 35 = some (.agg #[.int .i64 0, .int .i64 0, .int .i64 0]) := by kernel_rfl
theorem zr_37 : zr Try.prog 37 = some (.agg #[.int .i64 0, .int .i64 0]) := by kernel_rfl
theorem zr_42 : zr Try.prog 42 = some (.agg #[.slice none 0 0, .int .i64 0]) := by kernel_rfl
theorem zr_52 : zr Try.prog 52 = some (.agg #[.int .i64 0, .int .i64 0, .int .i64 0, .int .i64 0, .int .i64 0, .int .i64 0, .int .i64 0, .int .i64 0]) := by kernel_rfl
theorem mixed : Try.prog.follows .mixedOrders = true := by kernel_rfl
end Go.Proofs.Ytengcfamhoppbaa
