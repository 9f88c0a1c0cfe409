/- What ldexp comes to: the number nearest to a float times a power of two. -/
import Derived.Test.YtcoaachajdomcaaFe
namespace Lev
open Ieee Go

/-- A float times 2 to the power of k, rounded. -/
def ldS (b : Nat) (k : Int) : Nat := D.word (sg b) (rr (ab (fv b) * pw k))

theorem rm_pow (e : Nat) : (rm (e * 4503599627370496 + 4503599627370496) : Rat) * pw (-1074) = pw ((e : Int) + 52 + -1074) := by
  rw [rm_seg e 4503599627370496 (.inr (Nat.le_refl _)) (by decide), ← pow52, ← Nat.pow_add, ← pw_nat, ← pw_add]
  congr 1; omega
theorem rm_inf : (rm INF : Rat) * pw (-1074) = pw 1024 := by
  have h : INF = 2046 * 4503599627370496 + 4503599627370496 := by decide
  rw [h]; exact rm_pow 2046

theorem pw_le {a b : Int} (h : a ≤ b) : pw a ≤ pw b := by
  obtain ⟨d, hd⟩ : ∃ d : Nat, b = a + d := ⟨(b - a).toNat, by omega⟩
  rw [hd, pw_add, pw_nat]
  have h4 : (1 : Rat) ≤ ((2 ^ d : Nat) : Rat) := by
    have : ((1 : Nat) : Rat) ≤ ((2 ^ d : Nat) : Rat) := cast_le.2 (Nat.two_pow_pos d)
    simpa using this
  have h5 := Rat.mul_le_mul_of_nonneg_left h4 (Rat.le_of_lt (pw_pos a))
  grind
theorem pw_lt {a b : Int} (h : a < b) : pw a < pw b := by
  have h1 := pw_le (show a + 1 ≤ b by omega)
  have h2 : pw (a + 1) = pw a * 2 := by rw [pw_add]; congr 1
  have := pw_pos a
  grind
theorem pw52 : pw 52 = ((4503599627370496 : Nat) : Rat) := by rw [show (52 : Int) = ((52 : Nat) : Int) from rfl, pw_nat]
theorem pw53 : pw 53 = ((9007199254740992 : Nat) : Rat) := by rw [show (53 : Int) = ((53 : Nat) : Int) from rfl, pw_nat]

/-- A number's size lies between its highest digit's power of two and the next one. -/
theorem val_ge {b : Nat} (h : rg b ≠ 0) : pw (topS b) ≤ ab (fv b) := by
  rw [val_top h]
  have h1 : pw (topS b) = pw 52 * pw (topS b - 52) := by rw [← pw_add]; congr 1; omega
  rw [h1, pw52]
  exact Rat.mul_le_mul_of_nonneg_right (cast_le.2 (by omega)) (Rat.le_of_lt (pw_pos _))
theorem val_lt {b : Nat} (h : rg b ≠ 0) : ab (fv b) < pw (topS b + 1) := by
  rw [val_top h]
  have h1 : pw (topS b + 1) = pw 53 * pw (topS b - 52) := by rw [← pw_add]; congr 1; omega
  rw [h1, pw53]
  have := fracS_lt h
  exact Rat.mul_lt_mul_of_pos_right (cast_lt.2 (by omega)) (pw_pos _)

theorem mul_pw_ge {b : Nat} {k : Int} (h : rg b ≠ 0) : pw (topS b + k) ≤ ab (fv b) * pw k := by
  rw [pw_add]; exact Rat.mul_le_mul_of_nonneg_right (val_ge h) (Rat.le_of_lt (pw_pos _))
theorem mul_pw_lt {b : Nat} {k : Int} (h : rg b ≠ 0) : ab (fv b) * pw k < pw (topS b + 1 + k) := by
  rw [pw_add (topS b + 1)]; exact Rat.mul_lt_mul_of_pos_right (val_lt h) (pw_pos _)
theorem mul_pw_nonneg (b : Nat) (k : Int) : 0 ≤ ab (fv b) * pw k := Rat.mul_nonneg (ab_nonneg _) (Rat.le_of_lt (pw_pos _))

theorem pw_double (k : Int) : pw (k + 1) = 2 * pw k := by
  rw [Int.add_comm, pw_add]; congr 1

theorem isRnd_low {x : Rat} (h : x < pw (-1075)) : IsRnd x 0 := by
  have hm : (mid2 0 : Rat) * pw (-1074) = pw (-1074) := by
    have : mid2 0 = 1 := by decide
    rw [this]; exact Rat.one_mul _
  refine ⟨by decide, fun _ => ?_, fun h0 => absurd h0 (by decide)⟩
  rw [hm, half_unit]
  exact ⟨by grind, fun _ => rfl⟩
theorem isRnd_high {x : Rat} (h : pw 1024 ≤ x) : IsRnd x INF := by
  refine ⟨Nat.le_refl _, fun h0 => absurd h0 (Nat.lt_irrefl _), fun _ => ?_⟩
  have h1 : mid2 (INF - 1) ≤ 2 * rm INF := by
    have h2 : INF - 1 + 1 = INF := by decide
    have h3 := rm_lt_succ (INF - 1)
    unfold mid2
    rw [h2] at h3 ⊢
    omega
  have h2 := unit_le.2 h1
  have h3 : ((2 * rm INF : Nat) : Rat) * pw (-1074) = 2 * pw 1024 := by rw [← rm_inf, Rat.natCast_mul, two_cast]; grind
  rw [h3] at h2
  exact ⟨by grind, fun _ => INF_even⟩

theorem ldS_low {b : Nat} {k : Int} (h : rg b ≠ 0) (hk : topS b + k < -1075) : ldS b k = D.word (sg b) 0 := by
  have h1 : ab (fv b) * pw k < pw (-1075) := by
    have h2 := mul_pw_lt (k := k) h
    have h3 := pw_le (show topS b + 1 + k ≤ -1075 by omega)
    grind
  unfold ldS
  rw [← (isRnd_low h1).eq_rr (mul_pw_nonneg _ _)]
theorem ldS_high {b : Nat} {k : Int} (h : rg b ≠ 0) (hk : 1023 < topS b + k) : ldS b k = D.word (sg b) INF := by
  have h1 : pw 1024 ≤ ab (fv b) * pw k := Rat.le_trans (pw_le (by omega)) (mul_pw_ge h)
  unfold ldS
  rw [← (isRnd_high h1).eq_rr (mul_pw_nonneg _ _)]

/-- The float of exponent E and the digits of b. -/
def zfl (b E : Nat) : Nat := D.word (sg b) (E * 4503599627370496 + fracS b)
theorem zfl_lt {b E : Nat} (h : rg b ≠ 0) (h2 : E ≤ 2046) : E * 4503599627370496 + fracS b < INF := by
  have := fracS_lt h; have := INF_eq; omega
theorem zfl_fin {b E : Nat} (h : rg b ≠ 0) (h2 : E ≤ 2046) : fin (zfl b E) := by
  have h3 := zfl_lt h h2
  unfold fin zfl
  rw [rg_word _ _ (Nat.lt_trans h3 (by decide))]; exact h3
theorem zfl_rm {b E : Nat} (h : rg b ≠ 0) (h1 : 1 ≤ E) : rm (E * 4503599627370496 + fracS b) = (4503599627370496 + fracS b) * 2 ^ (E - 1) := by
  have := fracS_lt h
  have e : E * 4503599627370496 + fracS b = (E - 1) * 4503599627370496 + (4503599627370496 + fracS b) := by omega
  rw [e, rm_seg _ _ (.inr (by omega)) (by omega)]
theorem zfl_val {b E : Nat} (h : rg b ≠ 0) (h1 : 1 ≤ E) : (rm (E * 4503599627370496 + fracS b) : Rat) * pw (-1074) = ab (fv b) * pw ((E : Int) - 1023 - topS b) := by
  rw [zfl_rm h h1, val_top h, Rat.natCast_mul, ← pw_nat, Rat.mul_assoc, ← pw_add, Rat.mul_assoc, ← pw_add]
  congr 2; omega

theorem ldS_normal {b : Nat} {k : Int} {E : Nat} (h : rg b ≠ 0) (h1 : 1 ≤ E) (h2 : E ≤ 2046) (hE : (E : Int) = topS b + k + 1023) : ldS b k = zfl b E := by
  have h3 := zfl_val h h1
  have h4 : (E : Int) - 1023 - topS b = k := by omega
  rw [h4] at h3
  unfold ldS zfl
  rw [← h3, ← (IsRnd.exact (zfl_lt h h2)).eq_rr (by rw [h3]; exact mul_pw_nonneg _ _)]
theorem one_mul_zfl {b E : Nat} (h : rg b ≠ 0) (h2 : E ≤ 2046) : D.mul 4607182418800017408 (zfl b E) = some (zfl b E) := by
  have h3 := zfl_lt h h2
  have e : rg (zfl b E) = E * 4503599627370496 + fracS b := rg_word _ _ (Nat.lt_trans h3 (by decide))
  have hm := mul_exact (a := 4607182418800017408) (b := zfl b E) (r := E * 4503599627370496 + fracS b) (by decide) (zfl_fin h h2) h3 (by
    rw [ab_mul, c0, ab_pw, pw_zero, Rat.one_mul, ab_fv, e])
  rw [hm]
  have e2 : sg (zfl b E) = sg b := sg_word _ _ (Nat.lt_trans h3 (by decide))
  have e3 : sg 4607182418800017408 = false := by decide
  rw [e2, e3, Bool.false_xor]; rfl
theorem ldS_denormal {b : Nat} {k : Int} {E : Nat} (h : rg b ≠ 0) (h1 : 1 ≤ E) (h2 : E ≤ 2046) (hE : (E : Int) = topS b + k + 53 + 1023) : D.mul 4368491638549381120 (zfl b E) = some (ldS b k) := by
  have h3 := zfl_lt h h2
  have e : rg (zfl b E) = E * 4503599627370496 + fracS b := rg_word _ _ (Nat.lt_trans h3 (by decide))
  obtain ⟨r, hr1, hr2⟩ := mul_spec (a := 4368491638549381120) (b := zfl b E) (by decide) (zfl_fin h h2)
  have hv : ab (fv 4368491638549381120 * fv (zfl b E)) = ab (fv b) * pw k := by
    rw [ab_mul, c53, ab_pw, ab_fv, e, zfl_val h h1, Rat.mul_comm, Rat.mul_assoc, ← pw_add]
    congr 2; omega
  rw [hv] at hr2
  have e2 : sg (zfl b E) = sg b := sg_word _ _ (Nat.lt_trans h3 (by decide))
  have e3 : sg 4368491638549381120 = false := by decide
  rw [hr1, e2, e3, Bool.false_xor]
  unfold ldS
  rw [hr2.eq_rr (mul_pw_nonneg _ _)]

theorem ldS_zero {b : Nat} (k : Int) (hb : b < 18446744073709551616) (h : rg b = 0) : ldS b k = b := by
  have : ab (fv b) = 0 := by rw [ab_fv, h, rm_zero]; exact Rat.zero_mul _
  unfold ldS
  rw [this, Rat.zero_mul, ← (IsRnd.zero).eq_rr (by decide), ← h, word_sg_rg b hb]
theorem ldS_lt (b : Nat) (k : Int) : ldS b k < 18446744073709551616 := word_lt64 _ _ (rr_spec (mul_pw_nonneg b k)).lt63

theorem flt_zero {x : Nat} (hf : rg x ≤ INF) (h : rg x ≠ 0) : flt x 0 = sg x := by
  have h0 : ord 0 = 0 := by decide
  have h1 : rg 0 = 0 := by decide
  unfold flt
  rw [h0, h1]
  unfold ord
  cases sg x
  · exact decide_eq_false (fun hh => by have := hh.2.2; simp at this; omega)
  · exact decide_eq_true ⟨hf, Nat.zero_le _, by simp; omega⟩

end Lev
