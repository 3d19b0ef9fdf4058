/- What live's answer is; plain. -/
import Derived.Test.YtjjfehdlmdhhmaaDoorGT6
import Derived.Test.YtjjfehdlmdhhmaaDoorGV1
section
/- What live's answer is; plain. -/
namespace Go.Proofs.YtjjfehdlmdhhmaaDoor
open Go.Sep
set_option linter.unusedSimpArgs false
set_option linter.unusedVariables false
theorem listOf_len (F : LFun) (p : Int → Prop) : (listOf F p).length ≤ F.regs.toNat := by
  unfold listOf
  exact Nat.le_trans (List.length_filterMap_le _ _) (by simp)
end Go.Proofs.YtjjfehdlmdhhmaaDoor
end
