/- Contracts of the document's Miss of layer 17. -/
import Derived.Test.YtigacobphgeeaaaVg9
import Derived.Test.YtigacobphgeeaaaB9
import Derived.Test.YtigacobphgeeaaaC9
set_option linter.unusedVariables false
namespace Go.Proofs.Ytigacobphgeeaaa
open Go.RowKit Go.Shelf Lev

attribute [local go_sem] run_store_float run_add_all run_sub_all run_mul_all run_quo_all

def RmRel (f : Fct) (xs : List Nat) (i K : Nat) (d : Value) : Prop := ∃ b, d = .float .f64 b ∧ cn b = msD f xs i (K - i) ∧ b < 18446744073709551616

end Go.Proofs.Ytigacobphgeeaaa
