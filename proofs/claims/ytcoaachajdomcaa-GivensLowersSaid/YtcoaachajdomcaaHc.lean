/- Contracts: Down, of the code and of the document. -/
import Derived.Test.YtcoaachajdomcaaHb
namespace Lev
theorem cn_cn (a : Nat) : cn (cn a) = cn a := by
  by_cases h : INF < rg a
  · rw [cn_nan h]; exact cn_nan nanc_nan
  · rw [cn_num h, cn_num h]
theorem cn_arS (op : Go.BinOp) (a b : Nat) : cn (arS op a b) = arS op a b := by
  unfold arS
  cases Go.floatBits op .f64 a b with
  | some r => exact cn_cn r
  | none => exact cn_nan nanc_nan
theorem arS_l (op : Go.BinOp) (hop : op = .add ∨ op = .sub ∨ op = .mul ∨ op = .quo) {p q : Nat} (h : cn p = q) (hq : cn q = q) (b : Nat) : arS op p b = arS op q b := by
  rw [arS_cn op hop p b, h, arS_cn op hop q b, hq]
theorem arS_r (op : Go.BinOp) (hop : op = .add ∨ op = .sub ∨ op = .mul ∨ op = .quo) {p q : Nat} (h : cn p = q) (hq : cn q = q) (b : Nat) : arS op b p = arS op b q := by
  rw [arS_cn op hop b p, h, arS_cn op hop b q, hq]
def downP (c s r x : Nat) : Nat := arS .quo (arS .sub r (arS .mul s x)) c
def downV (c s r x : Nat) : Nat := arS .sub (arS .mul c x) (arS .mul s (downP c s r x))
end Lev
namespace Go.Proofs.Ytcoaachajdomcaa
open Go.RowKit Go.Shelf Lev

theorem down_cn (c s r x : Nat) (w1 w2 w3 w4 w5 w6 : World) : cn (arV .quo (arV .sub r (arV .mul s x w1) w2) c w3) = downP c s r x ∧
    cn (arV .sub (arV .mul c x w4) (arV .mul s (arV .quo (arV .sub r (arV .mul s x w1) w2) c w3) w5) w6) = downV c s r x := by
  have h1 : cn (arV .quo (arV .sub r (arV .mul s x w1) w2) c w3) = downP c s r x := by
    rw [cn_arV, arS_l .quo (by simp) (cn_arV .sub r _ w2) (cn_arS _ _ _), arS_r .sub (by simp) (cn_arV .mul s x w1) (cn_arS _ _ _)]; rfl
  have h1c : cn (downP c s r x) = downP c s r x := cn_arS _ _ _
  refine ⟨h1, ?_⟩
  rw [cn_arV, arS_l .sub (by simp) (cn_arV .mul c x w4) (cn_arS _ _ _), arS_r .sub (by simp) (cn_arV .mul s _ w5) (cn_arS _ _ _), arS_r .mul (by simp) h1 h1c]; rfl

attribute [local go_sem] run_add_all run_sub_all run_mul_all run_quo_all

set_option maxHeartbeats 400000 in
theorem gdown_any (c s r x : Nat) (w : World) :
    Calls Try.prog 29 #[.float .f64 c, .float .f64 s, .float .f64 r, .float .f64 x] w fun e w' => (∃ u v, e = .returned (.tuple #[.float .f64 u, .float .f64 v]) ∧ cn u = downP c s r x ∧ cn v = downV c s r x ∧ u < 18446744073709551616 ∧ v < 18446744073709551616) ∧ ∃ n, w' = w.drewN n := by
  go_enter Try.func29, Try.ntmps29
  go_wp2
  go_ret2
  exact ⟨⟨_, _, rfl, (down_cn _ _ _ _ _ _ _ w w w).1, (down_cn _ _ _ _ _ _ _ _ _ _).2, arV_lt _ _ _ _, arV_lt _ _ _ _⟩, _, rfl⟩

set_option maxHeartbeats 400000 in
theorem rdown_any (c s r x : Nat) (w : World) :
    Calls Try.prog 30 #[.float .f64 c, .float .f64 s, .float .f64 r, .float .f64 x] w fun e w' => (∃ u v, e = .returned (.tuple #[.float .f64 u, .float .f64 v]) ∧ cn u = downP c s r x ∧ cn v = downV c s r x ∧ u < 18446744073709551616 ∧ v < 18446744073709551616) ∧ ∃ n, w' = w.drewN n := by
  go_enter Try.func30, Try.ntmps30
  go_wp2
  go_ret2
  exact ⟨⟨_, _, rfl, (down_cn _ _ _ _ _ _ _ w w w).1, (down_cn _ _ _ _ _ _ _ _ _ _).2, arV_lt _ _ _ _, arV_lt _ _ _ _⟩, _, rfl⟩

end Go.Proofs.Ytcoaachajdomcaa
