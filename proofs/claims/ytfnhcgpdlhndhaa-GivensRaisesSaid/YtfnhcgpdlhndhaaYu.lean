/- What the rotations tell, as cases; what is turned, as floats. -/
import Derived.Test.YtfnhcgpdlhndhaaZ
import Derived.Test.YtfnhcgpdlhndhaaH
import Derived.Test.YtfnhcgpdlhndhaaI
set_option linter.unusedVariables false
namespace Lev
open Ieee
theorem arS_some {op : Go.BinOp} {a b r : Nat} (h : Go.floatBits op .f64 a b = some r) (hr : ¬ INF < rg r) : arS op a b = r := by
  unfold arS; rw [h]; exact cn_num hr
theorem num_fin {r : Nat} (h : fin r) : ¬ INF < rg r := by unfold fin at h; omega
theorem turn_eq {c s x y v w : Nat} {η : Rat} (t : Turned c s x y η v w) : turnU c s x y = v ∧ turnV c s x y = w := by
  have n1 : ¬ INF < rg (fmul c x) := fun h => by have := add_nan_l h (fmul s y); rw [t.av] at this; cases this
  have n2 : ¬ INF < rg (fmul s y) := fun h => by have := add_nan_r h (fmul c x); rw [t.av] at this; cases this
  have n3 : ¬ INF < rg (fmul c y) := fun h => by have := sub_nan_l h (fmul s x); rw [t.sw] at this; cases this
  have n4 : ¬ INF < rg (fmul s x) := fun h => by have := sub_nan_r h (fmul c y); rw [t.sw] at this; cases this
  unfold turnU turnV
  rw [arS_some (op := .mul) t.mcx n1, arS_some (op := .mul) t.msy n2, arS_some (op := .mul) t.mcy n3, arS_some (op := .mul) t.msx n4]
  exact ⟨arS_some (op := .add) t.av (num_fin t.fv'), arS_some (op := .sub) t.sw (num_fin t.fw)⟩
theorem down_eq {c s p q v w : Nat} (t : RaiseLaw c s p q v w) : downP c s p q = v ∧ downV c s p q = w := by
  have n1 : ¬ INF < rg (fmul s q) := fun h => by have := sub_nan_r h p; rw [t.sub] at this; cases this
  have n2 : ¬ INF < rg (fsub p (fmul s q)) := fun h => by have := div_nan_l h c; rw [t.div] at this; cases this
  have n3 : ¬ INF < rg (fmul c q) := fun h => by have := sub_nan_l h (fmul s v); rw [t.sub2] at this; cases this
  have n4 : ¬ INF < rg (fmul s v) := fun h => by have := sub_nan_r h (fmul c q); rw [t.sub2] at this; cases this
  have e1 : downP c s p q = v := by
    unfold downP
    rw [arS_some (op := .mul) t.msq n1, arS_some (op := .sub) t.sub n2]
    exact arS_some (op := .quo) t.div (num_fin t.fv')
  refine ⟨e1, ?_⟩
  unfold downV
  rw [e1, arS_some (op := .mul) t.mcq n3, arS_some (op := .mul) t.msv n4]
  exact arS_some (op := .sub) t.sub2 (num_fin t.fw)
theorem ofT_cases (f g : Nat) : ofT f g = .tuple #[.float .f64 0, .float .f64 0, .float .f64 0, .bool false] ∨ ∃ c s r, ofT f g = .tuple #[.float .f64 c, .float .f64 s, .float .f64 r, .bool true] ∧ fin f ∧ fin g ∧ RotLaw f g c s r := by
  unfold ofT
  split
  · rename_i h
    split
    · rename_i h2
      exact .inr ⟨_, _, _, rfl, h.1, h.2, rot_law0 h2.1 h2.2⟩
    · rename_i h2
      split
      · rename_i h3
        exact .inr ⟨_, _, _, rfl, h.1, h.2, rot_law h.1 h.2 h2 h3⟩
      · exact .inl rfl
  · exact .inl rfl
theorem hypT_cases (r x : Nat) : hypT r x = .tuple #[.float .f64 0, .float .f64 0, .bool false] ∨ ∃ c s, hypT r x = .tuple #[.float .f64 c, .float .f64 s, .bool true] ∧ HypCS c s := by
  unfold hypT
  split
  · rename_i h
    split
    · exact .inr ⟨_, _, rfl, hyp_trivial⟩
    · split
      · rename_i h3
        unfold hypB at h3
        rw [decide_eq_true_eq] at h3
        have hs := hypS_spec h.1 h.2 h3.1
        exact .inr ⟨_, _, rfl, hyp_law h3.2 hs.2.1⟩
      · exact .inl rfl
  · exact .inl rfl
theorem neg_bits' {s : Nat} (h : s < 18446744073709551616) : s ^^^ 2 ^ 63 = fneg s := by
  unfold fneg
  have hr : (rg s).testBit 63 = false := Nat.testBit_lt_two_pow (by have := rg_lt s; exact this)
  have e1 : s = (sg s).toNat * 9223372036854775808 ||| rg s := by
    rw [join63 _ _ (rg_lt s), word_sg_rg _ h]
  rw [← join63 _ _ (rg_lt s)]
  conv => lhs; rw [e1]
  rw [show (9223372036854775808 : Nat) = 2 ^ 63 from by decide]
  generalize rg s = r at *
  apply Nat.eq_of_testBit_eq
  intro i
  cases sg s
  · rw [Nat.testBit_xor, Nat.testBit_or, Nat.testBit_or, Nat.testBit_two_pow]
    simp only [Bool.toNat_false, Nat.zero_mul, Nat.zero_testBit, Bool.false_or, Bool.not_false, Bool.toNat_true, Nat.one_mul, Nat.testBit_two_pow]
    by_cases hi : 63 = i
    · subst hi; rw [hr]; decide
    · rw [decide_eq_false hi, Bool.xor_false, Bool.false_or]
  · rw [Nat.testBit_xor, Nat.testBit_or, Nat.testBit_or, Nat.testBit_two_pow]
    simp only [Bool.toNat_false, Nat.zero_mul, Nat.zero_testBit, Bool.false_or, Bool.not_true, Bool.toNat_true, Nat.one_mul, Nat.testBit_two_pow]
    by_cases hi : 63 = i
    · subst hi; rw [hr]; decide
    · rw [decide_eq_false hi, Bool.xor_false, Bool.false_or]
theorem neg_bits {s : Nat} (h : s < 18446744073709551616) : Go.Op.negFloat .f64 s = fneg s := by
  have e : Go.FloatKind.f64.format.exponentBits + Go.FloatKind.f64.format.fractionBits = 63 := rfl
  unfold Go.Op.negFloat
  rw [e]
  exact neg_bits' h
theorem fle_le1 {c : Nat} (hf : fin c) (h : ab (fv c) ≤ 1) : fle 13830554455654793216 c = true ∧ fle c 4607182418800017408 = true := by
  have hI := INF_eq
  unfold fin at hf
  have h1 := ab_le_iff.1 h
  have e1 : fv 4607182418800017408 = 1 := fvOne
  have e2 : fv 13830554455654793216 = -1 := by decide +kernel
  constructor
  · unfold fle
    rw [decide_eq_true_eq]
    exact ⟨by decide, by omega, fv_le.1 (by rw [e2]; exact h1.1)⟩
  · unfold fle
    rw [decide_eq_true_eq]
    exact ⟨by omega, by decide, fv_le.1 (by rw [e1]; exact h1.2)⟩
theorem fle_rg {f r : Nat} (hr : fin r) (hs : sg r = false) (h : rg f ≤ rg r) : fle (rg f) r = true := by
  have hI := INF_eq
  unfold fin at hr
  unfold fle
  rw [decide_eq_true_eq, rg_rg, ord_rg]
  refine ⟨by omega, by omega, ?_⟩
  unfold ord; rw [hs, if_neg (by decide)]; omega
end Lev
