/- The contract of tri.Check. -/
import Derived.Test.YtcoaachajdomcaaCb
import Derived.Shelf.Abstract
import Derived.RangeFuncCalls
namespace Go.Proofs.Ytcoaachajdomcaa
open Go.RowKit Go.Shelf Lev

attribute [local go_sem] Oper.semAt_some

theorem ret_t {a b : Bool} (h : a = b) : Ending.returned (.bool a) = Ending.returned (.bool b) := by rw [h]

theorem Boxed4.new (w : World) (t : TypeId) (v0 v1 v2 v3 : Value) : (w.alloc (.cells #[v0, v1, v2, v3] t)).cell? ⟨w.heap.size, 0, none⟩ = some v0 ∧ (w.alloc (.cells #[v0, v1, v2, v3] t)).cell? ⟨w.heap.size, 1, none⟩ = some v1 := by
  constructor <;> simp [go_sem]

end Go.Proofs.Ytcoaachajdomcaa
