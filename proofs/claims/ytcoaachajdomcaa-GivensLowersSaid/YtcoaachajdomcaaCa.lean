/- Contracts of package tri: Size, large, and of the library's ContainsFunc at large. -/
import Derived.Test.YtcoaachajdomcaaMa
import Derived.Deep.QuietTactic
import Derived.BigQuiet
namespace Go.Proofs.Ytcoaachajdomcaa
open Go.RowKit Lev

attribute [local go_sem] run_fbits run_frombits order_lt order_gt order_eq order_ne flt_or_feq flt_or_feq'

theorem p420 : makeF false 1 420 = 6498694262295625728 := (makeF_pow 1443 (by decide) (by decide)).2
theorem fle_small (b : Nat) : fle (rg b) 6498694262295625728 = small b := by
  have h1 : ord 6498694262295625728 = 6498694262295625728 := by decide
  have h2 : rg 6498694262295625728 = 6498694262295625728 := by decide
  unfold fle small
  rw [ord_rg, h1, h2, rg_rg, decide_eq_decide, INF_eq]; omega
attribute [local go_sem] p420 fle_small

end Go.Proofs.Ytcoaachajdomcaa
