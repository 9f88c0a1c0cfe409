/- Contracts of the document's Top and In. -/
import Derived.Test.YtkhnoffhbfcgfaaBh
namespace Go.Proofs.Ytkhnoffhbfcgfaa
open Go.RowKit Lev

attribute [local go_sem] run_fbits run_frombits order_lt order_gt order_eq order_ne flt_or_feq flt_or_feq' p_400 p400

theorem top_ends {M j : Nat} (h1 : 1 ≤ M / 2 ^ j) (h2 : M / 2 ^ j ≤ 1) : M.log2 = j := by
  have hp := Nat.two_pow_pos j
  have hdm := Nat.div_add_mod M (2 ^ j)
  have hml := Nat.mod_lt M hp
  have e : M / 2 ^ j = 1 := by omega
  rw [e, Nat.mul_one] at hdm
  exact log2_eq (by omega) (by rw [Nat.pow_succ]; omega)

end Go.Proofs.Ytkhnoffhbfcgfaa
