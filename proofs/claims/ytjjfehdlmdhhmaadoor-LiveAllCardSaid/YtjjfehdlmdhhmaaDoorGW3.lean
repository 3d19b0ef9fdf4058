/- Intervals of a lease's function. -/
import Derived.Test.YtjjfehdlmdhhmaaDoorGW1
import Derived.Test.YtjjfehdlmdhhmaaDoorGT9
section
/- Intervals of a lease's function. -/
namespace Go.Proofs.YtjjfehdlmdhhmaaDoor
open Go.Sep
set_option linter.unusedSimpArgs false
set_option linter.unusedVariables false
attribute [local irreducible] blk slA mp mpF rows rowsBut
end Go.Proofs.YtjjfehdlmdhhmaaDoor
end
