/- Float operations at any operands: what is no number is any of the NaNs, and the world has drawn once. -/
import Derived.Test.YtigacobphgeeaaaF9
import Derived.RowKit
import Derived.Laws.FloatArith
import Derived.BigQuiet
namespace Lev
open Ieee
theorem add_nan_l {a : Nat} (h : INF < rg a) (b : Nat) : D.add a b = none := by
  obtain ⟨t, ht⟩ := read_nan h
  unfold Format.add
  rw [ht]
  rfl
theorem add_nan_r {b : Nat} (h : INF < rg b) (a : Nat) : D.add a b = none := by
  obtain ⟨t, ht⟩ := read_nan h
  unfold Format.add
  rw [ht]
  cases D.read a <;> rfl
theorem sub_nan_l {a : Nat} (h : INF < rg a) (b : Nat) : D.sub a b = none := by
  obtain ⟨t, ht⟩ := read_nan h
  unfold Format.sub
  rw [ht]
  rfl
theorem sub_nan_r {b : Nat} (h : INF < rg b) (a : Nat) : D.sub a b = none := by
  obtain ⟨t, ht⟩ := read_nan h
  unfold Format.sub
  rw [ht]
  cases D.read a <;> rfl
theorem mul_nan_l {a : Nat} (h : INF < rg a) (b : Nat) : D.mul a b = none := by
  obtain ⟨t, ht⟩ := read_nan h
  unfold Format.mul
  rw [ht]
  rfl
theorem mul_nan_r {b : Nat} (h : INF < rg b) (a : Nat) : D.mul a b = none := by
  obtain ⟨t, ht⟩ := read_nan h
  unfold Format.mul
  rw [ht]
  cases D.read a <;> rfl
theorem div_nan_l {a : Nat} (h : INF < rg a) (b : Nat) : D.div a b = none := by
  obtain ⟨t, ht⟩ := read_nan h
  unfold Format.div
  rw [ht]
  rfl
theorem div_nan_r {b : Nat} (h : INF < rg b) (a : Nat) : D.div a b = none := by
  obtain ⟨t, ht⟩ := read_nan h
  unfold Format.div
  rw [ht]
  cases D.read a <;> rfl
/-- The result's bits, NaNs made one. -/
def arS (op : Go.BinOp) (a b : Nat) : Nat := match Go.floatBits op .f64 a b with
  | some r => cn r
  | none => nanc
theorem arS_cn (op : Go.BinOp) (hop : op = .add ∨ op = .sub ∨ op = .mul ∨ op = .quo) (a b : Nat) : arS op a b = arS op (cn a) (cn b) := by
  by_cases ha : INF < rg a
  · have h1 : Go.floatBits op .f64 a b = none := by
      rcases hop with rfl | rfl | rfl | rfl
      · exact add_nan_l ha b
      · exact sub_nan_l ha b
      · exact mul_nan_l ha b
      · exact div_nan_l ha b
    have hc : INF < rg (cn a) := by rw [cn_nan ha]; exact nanc_nan
    have h2 : Go.floatBits op .f64 (cn a) (cn b) = none := by
      rcases hop with rfl | rfl | rfl | rfl
      · exact add_nan_l hc _
      · exact sub_nan_l hc _
      · exact mul_nan_l hc _
      · exact div_nan_l hc _
    unfold arS
    rw [h1, h2]
  · rw [cn_num ha]
    by_cases hb : INF < rg b
    · have h1 : Go.floatBits op .f64 a b = none := by
        rcases hop with rfl | rfl | rfl | rfl
        · exact add_nan_r hb a
        · exact sub_nan_r hb a
        · exact mul_nan_r hb a
        · exact div_nan_r hb a
      have hc : INF < rg (cn b) := by rw [cn_nan hb]; exact nanc_nan
      have h2 : Go.floatBits op .f64 a (cn b) = none := by
        rcases hop with rfl | rfl | rfl | rfl
        · exact add_nan_r hc a
        · exact sub_nan_r hc a
        · exact mul_nan_r hc a
        · exact div_nan_r hc a
      unfold arS
      rw [h1, h2]
    · rw [cn_num hb]
end Lev
namespace Go.Proofs.Ytigacobphgeeaaa
open Go.RowKit Lev
/-- What the tape may answer is a NaN. -/
theorem tape_nan (t : Nat) : INF < rg ((t % 2) * 2 ^ 63 + 0x7ff0000000000000 + 1 + (t / 2) % (2 ^ 52 - 1)) ∧ (t % 2) * 2 ^ 63 + 0x7ff0000000000000 + 1 + (t / 2) % (2 ^ 52 - 1) < 18446744073709551616 := by
  have hI := INF_eq
  have h1 : (t / 2) % (2 ^ 52 - 1) < 2 ^ 52 - 1 := Nat.mod_lt _ (by decide)
  generalize (t / 2) % (2 ^ 52 - 1) = m at *
  have h3 : m < 4503599627370495 := h1
  unfold rg
  rcases (by omega : t % 2 = 0 ∨ t % 2 = 1) with h | h <;> rw [h] <;> omega
/-- Any float operation: a value, and as many draws as it took. -/
theorem float_any {P : Program} (op : BinOp) (hop : op = .add ∨ op = .sub ∨ op = .mul ∨ op = .quo) (t : TypeId) (a b : Nat) (w : World) :
    ∃ v n, (binOp op t (.float .f64 a) (.float .f64 b)).run P w = .ok (.float .f64 v) (w.drewN n) ∧ v < 18446744073709551616 ∧ cn v = arS op a b := by
  cases hr : floatBits op .f64 a b with
  | some r =>
    refine ⟨r, 0, run_float_arith w op t .f64 a b r hr, ?_, by unfold arS; rw [hr]⟩
    have := floatBits_wf hr
    simpa [Lit.wf] using this
  | none =>
    obtain ⟨n1, n2⟩ := tape_nan (w.tape w.drawn (.nanBits .f64 a b))
    refine ⟨_, 1, ?_, n2, by unfold arS; rw [hr, cn_nan n1]⟩
    unfold floatBits at hr
    rcases hop with rfl | rfl | rfl | rfl <;> simp only at hr <;> simp [binOp, Op.floatArith, hr, choose, Sem.run, Question.forced, Question.cut]
    all_goals rfl

/-- The value, at a world; the draws it took. -/
def arV (op : BinOp) (a b : Nat) (w : World) : Nat := match floatBits op .f64 a b with
  | some r => r
  | none => let t := w.tape w.drawn (.nanBits .f64 a b); (t % 2) * 2 ^ 63 + 0x7ff0000000000000 + 1 + (t / 2) % (2 ^ 52 - 1)
def arN (op : BinOp) (a b : Nat) : Nat := match floatBits op .f64 a b with
  | some _ => 0
  | none => 1
theorem arV_lt (op : BinOp) (a b : Nat) (w : World) : arV op a b w < 18446744073709551616 := by
  unfold arV
  cases hr : floatBits op .f64 a b with
  | some r =>
    have := floatBits_wf hr
    simpa [Lit.wf] using this
  | none => exact (tape_nan _).2
theorem cn_arV (op : BinOp) (a b : Nat) (w : World) : cn (arV op a b w) = arS op a b := by
  unfold arV arS
  cases hr : floatBits op .f64 a b with
  | some r => rfl
  | none => exact cn_nan (tape_nan _).1
theorem run_float_all {P : Program} (op : BinOp) (hop : op = .add ∨ op = .sub ∨ op = .mul ∨ op = .quo) (t : TypeId) (a b : Nat) (w : World) :
    (binOp op t (.float .f64 a) (.float .f64 b)).run P w = .ok (.float .f64 (arV op a b w)) (w.drewN (arN op a b)) := by
  unfold arV arN
  cases hr : floatBits op .f64 a b with
  | some r => exact run_float_arith w op t .f64 a b r hr
  | none =>
    unfold floatBits at hr
    rcases hop with rfl | rfl | rfl | rfl <;> simp only at hr <;> simp [binOp, Op.floatArith, hr, choose, Sem.run, Question.forced, Question.cut]
    all_goals rfl
theorem run_add_all {P : Program} (t : TypeId) (a b : Nat) (w : World) : (binOp .add t (.float .f64 a) (.float .f64 b)).run P w = .ok (.float .f64 (arV .add a b w)) (w.drewN (arN .add a b)) := run_float_all .add (.inl rfl) t a b w
theorem run_sub_all {P : Program} (t : TypeId) (a b : Nat) (w : World) : (binOp .sub t (.float .f64 a) (.float .f64 b)).run P w = .ok (.float .f64 (arV .sub a b w)) (w.drewN (arN .sub a b)) := run_float_all .sub (.inr (.inl rfl)) t a b w
theorem run_mul_all {P : Program} (t : TypeId) (a b : Nat) (w : World) : (binOp .mul t (.float .f64 a) (.float .f64 b)).run P w = .ok (.float .f64 (arV .mul a b w)) (w.drewN (arN .mul a b)) := run_float_all .mul (.inr (.inr (.inl rfl))) t a b w
theorem run_quo_all {P : Program} (t : TypeId) (a b : Nat) (w : World) : (binOp .quo t (.float .f64 a) (.float .f64 b)).run P w = .ok (.float .f64 (arV .quo a b w)) (w.drewN (arN .quo a b)) := run_float_all .quo (.inr (.inr (.inr rfl))) t a b w
theorem arS_2 (op op1 op2 : BinOp) (hop : op = .add ∨ op = .sub ∨ op = .mul ∨ op = .quo) (a b c d : Nat) (w1 w2 : World) : arS op (arV op1 a b w1) (arV op2 c d w2) = arS op (arS op1 a b) (arS op2 c d) := by
  rw [arS_cn op hop, cn_arV, cn_arV]
end Go.Proofs.Ytigacobphgeeaaa
