/- Contracts of levellingref06: Turn. -/
import Derived.Test.YtcoaachajdomcaaFj
import Derived.Test.YtcoaachajdomcaaGd
namespace Lev
def turnU (c s x y : Nat) : Nat := arS .add (arS .mul c x) (arS .mul s y)
def turnV (c s x y : Nat) : Nat := arS .sub (arS .mul c y) (arS .mul s x)
end Lev
namespace Go.Proofs.Ytcoaachajdomcaa
open Go.RowKit Go.Shelf Lev

attribute [local go_sem] run_add_all run_sub_all run_mul_all run_quo_all

set_option maxHeartbeats 400000 in
theorem rturn_any (c s x y : Nat) (w : World) :
    Calls Try.prog 25 #[.float .f64 c, .float .f64 s, .float .f64 x, .float .f64 y] w fun e w' => (∃ u v, e = .returned (.tuple #[.float .f64 u, .float .f64 v]) ∧ cn u = turnU c s x y ∧ cn v = turnV c s x y ∧ u < 18446744073709551616 ∧ v < 18446744073709551616) ∧ ∃ n, w' = w.drewN n := by
  go_enter Try.func25, Try.ntmps25
  go_wp2
  go_ret2
  exact ⟨⟨_, _, rfl, by rw [cn_arV, arS_2 _ _ _ (.inl rfl)]; rfl, by rw [cn_arV, arS_2 _ _ _ (.inr (.inl rfl))]; rfl, arV_lt _ _ _ _, arV_lt _ _ _ _⟩, _, rfl⟩

end Go.Proofs.Ytcoaachajdomcaa
