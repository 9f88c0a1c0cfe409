/- Plain: the law StatsSpread. -/
import Derived.Test.YtigacobphgeeaaaVi9
import Derived.Test.YtigacobphgeeaaaE9
set_option linter.unusedVariables false
namespace Lev
open Ieee
theorem spread_fin {H V : Rat} (hH : 0 ≤ H) (hV : 0 ≤ V) (h1 : H * ((1 - uu) * (1 - uu)) ≤ V) (h2 : V ≤ H * ((1 + uu) * (1 + uu))) : ab (H - V) ≤ V * 3 * uu := by
  rw [ab_le_iff]
  unfold uu at *
  constructor <;> grind
theorem root_law {V : Nat} (hf : fin V) (hs : sg V = false) : fin (sqrtF V) ∧ sg (sqrtF V) = false ∧ sqrtF V < 18446744073709551616 ∧ ab (fv (sqrtF V) * fv (sqrtF V) - fv V) ≤ fv V * 3 * uu + pw (-1060) := by
  obtain ⟨_, f1, f2, f3⟩ := sqrt_ok hf hs
  refine ⟨f1, f3, f2, ?_⟩
  have hp := pw_pos (-1060)
  by_cases h0 : rg V = 0
  · have e : sqrtF V = D.word (sg V) 0 := by unfold sqrtF; rw [sqrt_zero h0]; rfl
    have hz : fv (sqrtF V) = 0 := by rw [e, fv_word (by decide), rm_zero]; cases sg V <;> simp [sv]
    rw [hz, fv_of_rg0 h0, show (0 : Rat) * 0 - 0 = 0 from by grind, ab_zero]; grind
  · obtain ⟨q0, q1, q2⟩ := sqrt_err hf hs h0
    have := spread_fin (sq_nonneg _) (fv_nonneg hs) q1 q2
    grind
theorem spread_law {f : Fct} (h : f.ok = true) (hf : 1 ≤ f.R - f.C) : fin (stVar f) ∧ sg (stVar f) = false ∧ stVar f < 18446744073709551616 := by
  obtain ⟨p1, p2, p3, p4, p5, p6, p7, p8, p9, p10, p11, p12, p13, p14, p15⟩ := st_facts h hf
  exact ⟨by unfold fin at p11 ⊢; omega, p9, p5⟩
theorem fle0 {r : Nat} (hf : fin r) (hs : sg r = false) : fle 0 r = true := by
  have hI := INF_eq
  unfold fin at hf
  unfold fle
  rw [decide_eq_true_eq]
  refine ⟨by decide, by omega, ?_⟩
  rw [show ord 0 = 0 from by decide]
  unfold ord
  rw [hs, if_neg (by decide)]
  omega
end Lev
