/- The iterator over a factor's rows. -/
import Derived.Test.YtcoaachajdomcaaCa
import Derived.RangeFuncBox
import Derived.RangeFuncLeaves
import Derived.OwnWalkIn
import Derived.TacticsInMore
import Derived.LoopNIn
import Derived.LoopIn
namespace Go.Proofs.Ytcoaachajdomcaa
open Go.RowKit Lev

attribute [local go_sem] Oper.semAt_some

theorem take_fin {N k : Nat} (h : k < N) : (List.finRange N).take (k + 1) = (List.finRange N).take k ++ [⟨k, h⟩] := by
  rw [List.take_succ_eq_append_getElem (by rw [List.length_finRange]; exact h)]
  simp

end Go.Proofs.Ytcoaachajdomcaa
