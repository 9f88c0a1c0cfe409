/- Lists and factors that are the same: the document's answer. -/
import Derived.Test.YtkhnoffhbfcgfaaCd
namespace Go.Proofs.Ytkhnoffhbfcgfaa
open Go.RowKit Go.Shelf Lev

theorem sameS_self (x : Nat) : sameS x x = true := by unfold sameS; exact beq_self_eq_true _

end Go.Proofs.Ytkhnoffhbfcgfaa
