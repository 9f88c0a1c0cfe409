/- The walk of StatsSpread. -/
import Derived.Test.YtigacobphgeeaaaVp9
import Derived.Test.YtigacobphgeeaaaVj9
import Derived.Test.YtigacobphgeeaaaZ9
set_option linter.unusedVariables false
namespace Go.Proofs.Ytigacobphgeeaaa
open Go.RowKit Go.Shelf Lev

attribute [local go_sem] run_store_float order_lt order_gt order_eq order_ne order_le order_ge flt_or_feq flt_or_feq'

end Go.Proofs.Ytigacobphgeeaaa
