/- What a float is made of; the number nearest to it that frexp and ldexp make. -/
import Derived.Test.YtcoaachajdomcaaFd
namespace Lev
open Ieee Go

/-- The whole number of a float. -/
def mantS (b : Nat) : Nat := if rg b < 4503599627370496 then rg b else 4503599627370496 + rg b % 4503599627370496
/-- Its exponent. -/
def expS (b : Nat) : Int := if rg b < 4503599627370496 then -1074 else (rg b / 4503599627370496 : Nat) - 1075
/-- The exponent of its highest digit. -/
def topS (b : Nat) : Int := (mantS b).log2 + expS b
/-- Its digits behind the highest one. -/
def fracS (b : Nat) : Nat := mantS b * 2 ^ (52 - (mantS b).log2) - 4503599627370496

theorem pow52 : (2 : Nat) ^ 52 = 4503599627370496 := by decide
theorem pow53 : (2 : Nat) ^ 53 = 9007199254740992 := by decide

theorem mantS_lt (b : Nat) : mantS b < 9007199254740992 := by unfold mantS; split <;> omega
theorem mantS_pos {b : Nat} (h : rg b ≠ 0) : 0 < mantS b := by unfold mantS; split <;> omega
theorem mantS_val (b : Nat) : (rm (rg b) : Rat) * pw (-1074) = (mantS b : Rat) * pw (expS b) := by
  unfold rm mantS expS
  by_cases h1 : rg b < 4503599627370496
  · rw [if_pos h1, if_pos h1, if_pos h1]
  · rw [if_neg h1, if_neg h1, if_neg h1, Rat.natCast_mul, ← pw_nat]
    have : ((rg b / 4503599627370496 : Nat) : Int) - 1075 = ((rg b / 4503599627370496 - 1 : Nat) : Int) + -1074 := by omega
    rw [this, pw_add]
    grind
theorem fv_mant (b : Nat) : ab (fv b) = (mantS b : Rat) * pw (expS b) := by rw [ab_fv, mantS_val]

theorem log2_eq {m k : Nat} (h1 : 2 ^ k ≤ m) (h2 : m < 2 ^ (k + 1)) : m.log2 = k := by
  have hm : m ≠ 0 := by have := Nat.two_pow_pos k; omega
  have a1 : 2 ^ m.log2 ≤ m := Nat.log2_self_le hm
  have a2 : m < 2 ^ (m.log2 + 1) := Nat.lt_log2_self
  rcases Nat.lt_trichotomy m.log2 k with h | h | h
  · have := Nat.pow_le_pow_right (n := 2) (by decide) (show m.log2 + 1 ≤ k by omega); omega
  · exact h
  · have := Nat.pow_le_pow_right (n := 2) (by decide) (show k + 1 ≤ m.log2 by omega); omega
theorem log2_lt {m k : Nat} (hm : m ≠ 0) (h2 : m < 2 ^ k) : m.log2 < k := by
  have a1 : 2 ^ m.log2 ≤ m := Nat.log2_self_le hm
  rcases Nat.lt_or_ge m.log2 k with h | h
  · exact h
  · have := Nat.pow_le_pow_right (n := 2) (by decide) h; omega

theorem lg_le {b : Nat} (h : rg b ≠ 0) : (mantS b).log2 ≤ 52 := by
  have := log2_lt (m := mantS b) (k := 53) (by have := mantS_pos h; omega) (by rw [pow53]; exact mantS_lt b)
  omega
/-- The number with its highest digit at place 52. -/
theorem shifted {b : Nat} (h : rg b ≠ 0) : 4503599627370496 ≤ mantS b * 2 ^ (52 - (mantS b).log2) ∧ mantS b * 2 ^ (52 - (mantS b).log2) < 9007199254740992 := by
  have hm := mantS_pos h
  have hl := lg_le h
  have a1 : 2 ^ (mantS b).log2 ≤ mantS b := Nat.log2_self_le (by omega)
  have a2 : mantS b < 2 ^ ((mantS b).log2 + 1) := Nat.lt_log2_self
  have hp := Nat.two_pow_pos (52 - (mantS b).log2)
  constructor
  · have h1 := Nat.mul_le_mul_right (2 ^ (52 - (mantS b).log2)) a1
    rw [← Nat.pow_add, show (mantS b).log2 + (52 - (mantS b).log2) = 52 by omega, pow52] at h1
    exact h1
  · have h1 := Nat.mul_lt_mul_of_pos_right a2 hp
    rw [← Nat.pow_add, show (mantS b).log2 + 1 + (52 - (mantS b).log2) = 53 by omega, pow53] at h1
    exact h1
theorem fracS_lt {b : Nat} (h : rg b ≠ 0) : fracS b < 4503599627370496 := by have := shifted h; unfold fracS; omega
theorem fracS_add {b : Nat} (h : rg b ≠ 0) : 4503599627370496 + fracS b = mantS b * 2 ^ (52 - (mantS b).log2) := by have := shifted h; unfold fracS; omega
theorem val_top {b : Nat} (h : rg b ≠ 0) : ab (fv b) = ((4503599627370496 + fracS b : Nat) : Rat) * pw (topS b - 52) := by
  have hl := lg_le h
  rw [fv_mant, fracS_add h, Rat.natCast_mul, ← pw_nat, Rat.mul_assoc, ← pw_add]
  congr 2
  unfold topS; omega

/-- The float made normal. -/
def nrm (b : Nat) : Nat := if rg b < 4503599627370496 then D.word (sg b) ((mantS b).log2 * 4503599627370496 + mantS b * 2 ^ (52 - (mantS b).log2)) else b
def nexp (b : Nat) : Int := if rg b < 4503599627370496 then -52 else 0

theorem lg_normal {b : Nat} (h : ¬ rg b < 4503599627370496) : (mantS b).log2 = 52 := by
  refine log2_eq ?_ ?_ <;> unfold mantS <;> rw [if_neg h]
  · rw [pow52]; omega
  · rw [pow53]; omega
theorem lg_sub {b : Nat} (h0 : rg b ≠ 0) (h : rg b < 4503599627370496) : (mantS b).log2 < 52 := by
  refine log2_lt ?_ ?_ <;> unfold mantS <;> rw [if_pos h]
  · exact h0
  · rw [pow52]; exact h

theorem sg_nrm {b : Nat} (h0 : rg b ≠ 0) : sg (nrm b) = sg b := by
  unfold nrm
  by_cases h : rg b < 4503599627370496
  · have := lg_sub h0 h
    have := shifted h0
    rw [if_pos h, sg_word _ _ (by omega)]
  · rw [if_neg h]
theorem nrm_lt {b : Nat} (hb : b < 18446744073709551616) (h0 : rg b ≠ 0) : nrm b < 18446744073709551616 := by
  unfold nrm
  by_cases h : rg b < 4503599627370496
  · have := lg_sub h0 h
    have := shifted h0
    rw [if_pos h]; exact word_lt64 _ _ (by omega)
  · rw [if_neg h]; exact hb
theorem rg_nrm_mod {b : Nat} (h0 : rg b ≠ 0) : rg (nrm b) % 4503599627370496 = fracS b := by
  unfold nrm fracS
  have hs := shifted h0
  by_cases h : rg b < 4503599627370496
  · have := lg_sub h0 h
    rw [if_pos h, rg_word _ _ (by omega)]; omega
  · rw [if_neg h, lg_normal h]
    unfold mantS
    rw [if_neg h]; omega
theorem rg_nrm_div {b : Nat} (h0 : rg b ≠ 0) : (rg (nrm b) / 4503599627370496 : Nat) + nexp b = topS b + 1023 := by
  unfold nrm nexp topS
  have hs := shifted h0
  by_cases h : rg b < 4503599627370496
  · have := lg_sub h0 h
    rw [if_pos h, if_pos h, rg_word _ _ (by omega)]
    unfold expS; rw [if_pos h]; omega
  · rw [if_neg h, if_neg h, lg_normal h]
    unfold expS; rw [if_neg h]; omega
theorem rg_nrm_ge {b : Nat} (h0 : rg b ≠ 0) : 1 ≤ rg (nrm b) / 4503599627370496 := by
  unfold nrm
  have hs := shifted h0
  by_cases h : rg b < 4503599627370496
  · have := lg_sub h0 h
    rw [if_pos h, rg_word _ _ (by omega)]; omega
  · rw [if_neg h]; omega
theorem topS_lo (b : Nat) : -1074 ≤ topS b := by
  unfold topS expS
  by_cases h : rg b < 4503599627370496
  · rw [if_pos h]; omega
  · rw [if_neg h]; omega
theorem topS_hi {b : Nat} (h : fin b) : topS b ≤ 1023 := by
  unfold topS expS
  have hI := INF_eq
  unfold fin at h
  by_cases h1 : rg b < 4503599627370496
  · rw [if_pos h1]
    by_cases h0 : rg b = 0
    · have : mantS b = 0 := by unfold mantS; rw [if_pos h1, h0]
      rw [this]; decide
    · have := lg_sub h0 h1; omega
  · rw [if_neg h1, lg_normal h1]; omega

/-- The word of a power of two. -/
theorem fv_pow (E : Nat) (h1 : 1 ≤ E) (h2 : E ≤ 2046) : fv (E * 4503599627370496) = pw ((E : Int) - 1023) := by
  have hI := INF_eq
  have e1 : rg (E * 4503599627370496) = E * 4503599627370496 := by unfold rg; omega
  have e2 : sg (E * 4503599627370496) = false := by rw [sg_lt (by omega)]; simp; omega
  unfold fv
  rw [e1, e2, sv_false]
  have h3 : E * 4503599627370496 = (E - 1) * 4503599627370496 + 4503599627370496 := by omega
  rw [h3, rm_seg (E - 1) 4503599627370496 (.inr (Nat.le_refl _)) (by decide), ← pow52, ← Nat.pow_add, ← pw_nat, ← pw_add]
  congr 1; omega
theorem fin_pow (E : Nat) (h2 : E ≤ 2046) : fin (E * 4503599627370496) := by unfold fin rg; have := INF_eq; omega

theorem c52 : fv 4841369599423283200 = pw 52 := fv_pow 1075 (by decide) (by decide)
theorem c53 : fv 4368491638549381120 = pw (-53) := fv_pow 970 (by decide) (by decide)
theorem c0 : fv 4607182418800017408 = pw 0 := fv_pow 1023 (by decide) (by decide)

/-- A product whose value is some float's is that float. -/
theorem mul_exact {a b r : Nat} (ha : fin a) (hb : fin b) (hr : r < INF) (h : ab (fv a * fv b) = (rm r : Rat) * pw (-1074)) : D.mul a b = some (D.word (sg a ^^ sg b) r) := by
  obtain ⟨s, h1, h2⟩ := mul_spec ha hb
  rw [h] at h2
  rw [h1, h2.unique (IsRnd.exact hr)]
theorem add_exact {a b r : Nat} (ha : fin a) (hb : fin b) (hr : r < INF) (h : ab (fv a + fv b) = (rm r : Rat) * pw (-1074)) : D.add a b = some (D.word (sumSg (sg a) (sg b) (fv a + fv b)) r) := by
  obtain ⟨s, h1, h2⟩ := add_spec ha hb
  rw [h] at h2
  rw [h1, h2.unique (IsRnd.exact hr)]

theorem ab_pw (k : Int) : ab (pw k) = pw k := by have := pw_pos k; unfold ab; rw [if_neg (by grind)]

theorem mul_norm {b : Nat} (h0 : rg b ≠ 0) (h : rg b < 4503599627370496) : D.mul b 4841369599423283200 = some (nrm b) := by
  have hI := INF_eq
  have hl := lg_sub h0 h
  have hs := shifted h0
  have hm := mul_exact (a := b) (b := 4841369599423283200) (r := (mantS b).log2 * 4503599627370496 + mantS b * 2 ^ (52 - (mantS b).log2))
    (by unfold fin; omega) (by decide) (by omega) (by
      rw [ab_mul, c52, ab_pw, fv_mant, rm_seg _ _ (.inr hs.1) (by omega), Nat.mul_assoc, ← Nat.pow_add, show 52 - (mantS b).log2 + (mantS b).log2 = 52 by omega,
        Rat.natCast_mul, ← pw_nat]
      have : expS b = -1074 := by unfold expS; rw [if_pos h]
      rw [this]
      have e : ((52 : Nat) : Int) = 52 := rfl
      rw [e]; grind)
  rw [hm]
  unfold nrm
  rw [if_pos h]
  have : sg 4841369599423283200 = false := by decide
  rw [this, Bool.xor_false]

/-- The nearest number, as a function. -/
def rr (x : Rat) : Nat := match Datum.quotient 54 (.number false x.num.natAbs 0) (.number false x.den 0) with
  | some d => D.write d
  | none => 0
theorem word_false (r : Nat) : D.word false r = r := by rw [word_eq]; simp
theorem rr_spec {x : Rat} (h : 0 ≤ x) : IsRnd x (rr x) := by
  have hd : 0 < x.den := x.den_pos
  have hx : ((x.num.natAbs : Nat) : Rat) * pw 0 / ((x.den : Rat) * pw 0) = x := by
    rw [pw_zero, Rat.mul_one, Rat.mul_one]
    have h1 : ((x.num.natAbs : Nat) : Rat) = (x.num : Rat) := by
      have h2 : (x.num.natAbs : Int) = x.num := by have := Rat.num_nonneg.2 h; omega
      rw [← Rat.intCast_natCast, h2]
    rw [h1, ← Rat.mkRat_eq_div, Rat.mkRat_self]
  by_cases h0 : x.num = 0
  · have hx0 : x = 0 := Rat.num_eq_zero.1 h0
    subst hx0
    have : rr 0 = 0 := by decide
    rw [this]; exact .zero
  · obtain ⟨r, hr1, hr2⟩ := quotient_spec false false x.num.natAbs x.den 0 0 (by omega) hd
    rw [hx] at hr2
    unfold rr
    cases hq : Datum.quotient 54 (.number false x.num.natAbs 0) (.number false x.den 0) with
    | none => rw [hq] at hr1; cases hr1
    | some d =>
      rw [hq] at hr1
      simp only [Option.map_some, Option.some.injEq] at hr1
      simp only
      rw [hr1]
      have : D.word (false ^^ false) r = r := word_false r
      rw [this]; exact hr2
theorem IsRnd.eq_rr {x : Rat} {r : Nat} (h : IsRnd x r) (h0 : 0 ≤ x) : r = rr x := h.unique (rr_spec h0)

end Lev
