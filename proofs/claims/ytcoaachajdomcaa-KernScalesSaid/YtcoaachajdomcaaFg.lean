/- What package bits tells of a float, as plain functions. -/
import Derived.Test.YtcoaachajdomcaaFf
import Derived.Laws.FloatArith
namespace Lev
open Ieee Go

/-- Its kind: 3 is no number, 2 is an infinity, 0 a zero, 1 any other. -/
def kindS (b : Nat) : Int := if INF < rg b then 3 else if rg b = INF then 2 else if rg b = 0 then 0 else 1
theorem kindS_nan {b : Nat} (h : INF < rg b) : kindS b = 3 := by unfold kindS; rw [if_pos h]
theorem kindS_inf {b : Nat} (h : rg b = INF) : kindS b = 2 := by unfold kindS; rw [if_neg (by omega), if_pos h]
theorem kindS_zero {b : Nat} (h : rg b = 0) : kindS b = 0 := by have := INF_eq; unfold kindS; rw [if_neg (by omega), if_neg (by omega), if_pos h]
theorem kindS_fin {b : Nat} (hf : fin b) (h : rg b ≠ 0) : kindS b = 1 := by unfold fin at hf; unfold kindS; rw [if_neg (by omega), if_neg (by omega), if_neg h]
theorem kindS_le {b : Nat} : kindS b ≤ 1 ↔ fin b := by
  have := INF_eq
  unfold kindS fin; split
  · constructor <;> intro _ <;> omega
  · split
    · constructor <;> intro _ <;> omega
    · split <;> constructor <;> intro _ <;> omega
theorem kindS_bounds (b : Nat) : 0 ≤ kindS b ∧ kindS b ≤ 3 := by
  unfold kindS
  repeat' split
  all_goals omega

/-- The exponent of the highest digit, of floats that are no zeros. -/
def topB (b : Nat) : Int := if kindS b = 1 then topS b else -2000

theorem mantS_rg (b : Nat) : mantS (rg b) = mantS b := by unfold mantS; rw [rg_rg]
theorem expS_rg (b : Nat) : expS (rg b) = expS b := by unfold expS; rw [rg_rg]
theorem topS_rg (b : Nat) : topS (rg b) = topS b := by unfold topS; rw [mantS_rg, expS_rg]
theorem fracS_rg (b : Nat) : fracS (rg b) = fracS b := by unfold fracS; rw [mantS_rg]
theorem fin_rg {b : Nat} (h : fin b) : fin (rg b) := by unfold fin; rw [rg_rg]; exact h

theorem frac_word (b : Nat) : D.word (sg (rg b)) (1022 * 4503599627370496 + fracS (rg b)) = 1022 * 4503599627370496 + fracS b := by
  rw [sg_rg, word_false, fracS_rg]

/-- The part of Frexp, as a float. -/
def partF (b : Nat) : Nat := 1022 * 4503599627370496 + fracS b
theorem partF_facts {b : Nat} (h : rg b ≠ 0) : partF b < 9223372036854775808 ∧ 4503599627370496 ≤ partF b ∧ rg (partF b) = partF b ∧ sg (partF b) = false ∧ fin (partF b) ∧ fracS (partF b) = fracS b ∧ topS (partF b) = -1 := by
  have hf := fracS_lt h
  have hI := INF_eq
  have h1 : partF b < 9223372036854775808 := by unfold partF; omega
  have h2 : rg (partF b) = partF b := Nat.mod_eq_of_lt h1
  have h3 : 4503599627370496 ≤ partF b := by unfold partF; omega
  have h4 : ¬ rg (partF b) < 4503599627370496 := by omega
  have h5 : sg (partF b) = false := by unfold sg; rw [Nat.div_eq_of_lt h1]; rfl
  have h6 : mantS (partF b) = 4503599627370496 + fracS b := by unfold mantS; rw [if_neg h4, h2]; unfold partF; omega
  refine ⟨h1, h3, h2, h5, by unfold fin; rw [h2]; unfold partF; omega, ?_, ?_⟩
  · unfold fracS
    rw [lg_normal h4, h6, Nat.sub_self, Nat.pow_zero, Nat.mul_one]
    unfold fracS; omega
  · unfold topS expS
    rw [lg_normal h4, if_neg h4, h2]; unfold partF; omega

/-- What Ldexp makes of that part: a whole number. -/
theorem part_ldS {b : Nat} (h : rg b ≠ 0) : ldS (partF b) 53 = 1075 * 4503599627370496 + fracS b := by
  obtain ⟨h1, h2, h3, h4, h5, h6, h7⟩ := partF_facts h
  rw [ldS_normal (E := 1075) (by omega) (by decide) (by decide) (by rw [h7]; decide)]
  unfold zfl
  rw [h4, h6, word_false]

theorem toInt_whole {f : Nat} (h : f < 4503599627370496) : floatToIntVal .f64 (1075 * 4503599627370496 + f) .u64 = some ((4503599627370496 + f : Nat) : Int) := by
  have hI := INF_eq
  have e1 : rg (1075 * 4503599627370496 + f) = 1075 * 4503599627370496 + f := by unfold rg; omega
  have e2 : sg (1075 * 4503599627370496 + f) = false := by unfold sg; rw [Nat.div_eq_of_lt (by omega)]; rfl
  have hr : D.read (1075 * 4503599627370496 + f) = .number false (4503599627370496 + f) 0 := by
    rw [read_eq, e1, e2, if_neg (by omega), if_pos (by omega)]
    have q1 : (1075 * 4503599627370496 + f) % 4503599627370496 = f := by omega
    have q2 : (-1074 : Int) + ((1075 * 4503599627370496 + f) / 4503599627370496 - 1 : Nat) = 0 := by omega
    rw [q1, q2]
  have hd : FloatKind.f64.decode (1075 * 4503599627370496 + f) = .number false (4503599627370496 + f) 0 := hr
  unfold floatToIntVal
  rw [hd]
  have ht : (Datum.number false (4503599627370496 + f) 0).toInt .zero = some ((4503599627370496 + f : Nat) : Int) := by
    unfold Datum.toInt Datum.integral Toward.cut
    simp [signed]
  rw [ht]
  simp only
  rw [if_pos]
  have e3 : IntKind.u64.min = 0 := rfl
  have e4 : IntKind.u64.max = 18446744073709551615 := rfl
  rw [e3, e4]; omega

/-- Halved again and again the whole number is the float's own. -/
theorem halved {b : Nat} (h : rg b ≠ 0) : (4503599627370496 + fracS b) / 2 ^ (52 - (mantS b).log2) = mantS b := by
  rw [fracS_add h, Nat.mul_div_cancel _ (Nat.two_pow_pos _)]
theorem expS_top {b : Nat} : topS b - 52 + (52 - (mantS b).log2 : Nat) = expS b ∨ 52 < (mantS b).log2 := by unfold topS; omega
theorem expS_ge (b : Nat) : -1074 ≤ expS b := by unfold expS; split <;> omega
theorem lg_exp (b : Nat) : (mantS b).log2 = 52 ∨ expS b = -1074 := by
  by_cases h : rg b < 4503599627370496
  · right; unfold expS; rw [if_pos h]
  · left; exact lg_normal h

theorem halving_ends {b j : Nat} (h0 : rg b ≠ 0) (h1 : ¬ topS b + 1 - 53 + (j : Int) < -1074) (h2 : j = 0 ∨ topS b + 1 - 53 + (j : Int) ≤ -1074) :
    (4503599627370496 + fracS b) / 2 ^ j = mantS b ∧ topS b + 1 - 53 + (j : Int) = expS b := by
  have hl := lg_le h0
  have he := expS_ge b
  have hlg := lg_exp b
  have hj : j = 52 - (mantS b).log2 := by unfold topS at h1 h2; omega
  refine ⟨by rw [hj]; exact halved h0, ?_⟩
  unfold topS; omega

/-- The three other things that Split tells. -/
def nS (b : Nat) : Bool := decide (kindS b ≠ 3) && sg b
def mS (b : Nat) : Nat := if kindS b = 1 then mantS b else 0
def eS (b : Nat) : Int := if kindS b = 1 then expS b else 0

/-! Being the same. -/
/-- The word that stands for all that are no numbers. -/
def nanc : Nat := 9221120237041090561
def cn (b : Nat) : Nat := if INF < rg b then nanc else b
def sameS (a b : Nat) : Bool := cn a == cn b
theorem cn_nan {b : Nat} (h : INF < rg b) : cn b = nanc := by unfold cn; rw [if_pos h]
theorem cn_num {b : Nat} (h : ¬ INF < rg b) : cn b = b := by unfold cn; rw [if_neg h]
theorem nanc_nan : INF < rg nanc := by decide
theorem sameS_eq (a b : Nat) : sameS a b = (((!feq a a) && (!feq b b)) || ((a : Int) == (b : Int))) := by
  have e : ∀ x : Nat, (!feq x x) = decide (INF < rg x) := fun x => by unfold feq; rw [← decide_not, decide_eq_decide]; omega
  rw [e, e]
  have hab : ((a : Int) == (b : Int)) = decide (a = b) := by
    rw [Bool.eq_iff_iff]; simp; omega
  rw [hab]
  unfold sameS
  by_cases ha : INF < rg a
  · by_cases hb : INF < rg b
    · rw [cn_nan ha, cn_nan hb]; simp [ha, hb]
    · rw [cn_nan ha, cn_num hb]
      have h1 : nanc ≠ b := fun h => hb (h ▸ nanc_nan)
      have h2 : a ≠ b := fun h => hb (h ▸ ha)
      simp [ha, hb, h1, h2]
  · by_cases hb : INF < rg b
    · rw [cn_num ha, cn_nan hb]
      have h1 : a ≠ nanc := fun h => ha (h ▸ nanc_nan)
      have h2 : a ≠ b := fun h => ha (h ▸ hb)
      simp [ha, hb, h1, h2]
    · rw [cn_num ha, cn_num hb]; simp [ha, hb]
      rw [Bool.eq_iff_iff]; simp

/-- Is it as great as it may be? -/
def inS (b : Nat) : Bool := decide (rg b = 0 ∨ (2805742567851819008 ≤ rg b ∧ rg b ≤ 6408622269748215808))

end Lev
