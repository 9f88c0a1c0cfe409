/- The document's answer: a factor with a row set. -/
import Derived.Test.YtkhnoffhbfcgfaaCi
namespace Lev
/-- Entry p behind the setting of row i up to column j. -/
def setM (N i : Nat) (l xs : List Nat) (j p : Nat) : Nat := if st N i ≤ p ∧ p < st N i + (j - i) then l[i + (p - st N i)]?.getD 0 else xs[p]?.getD 0
theorem setM_start (N i : Nat) (l xs : List Nat) (p : Nat) : setM N i l xs i p = xs[p]?.getD 0 := by unfold setM; rw [if_neg (by omega)]
theorem setM_end (N i : Nat) (l xs : List Nat) (p : Nat) : setM N i l xs N p = setP N i l xs p := by unfold setM setP; rw [st_succ]
theorem setM_step (N i : Nat) (l xs : List Nat) (j p : Nat) (h : i ≤ j) : setM N i l xs (j + 1) p = if p = st N i + (j - i) then l[j]?.getD 0 else setM N i l xs j p := by
  unfold setM
  by_cases hp : p = st N i + (j - i)
  · rw [if_pos (by omega), if_pos hp]; congr 2; omega
  · rw [if_neg hp]
    by_cases h2 : st N i ≤ p ∧ p < st N i + (j - i)
    · rw [if_pos h2, if_pos (by omega)]
    · rw [if_neg h2, if_neg (by omega)]
end Lev
namespace Go.Proofs.Ytkhnoffhbfcgfaa
open Go.RowKit Go.Shelf Lev

attribute [local go_sem] run_store_float

end Go.Proofs.Ytkhnoffhbfcgfaa
