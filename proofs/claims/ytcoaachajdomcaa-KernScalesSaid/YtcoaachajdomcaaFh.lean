/- Which numbers are floats: what package bits makes. -/
import Derived.Test.YtcoaachajdomcaaFg
namespace Lev
open Ieee Go

/-- A number that is some float's size. -/
def rep (V : Rat) : Prop := ∃ r, r < INF ∧ (rm r : Rat) * pw (-1074) = V

theorem rep_up : ∀ (n M E : Nat), M < 9007199254740992 → E ≤ 2045 → n = E → ∃ r, r < INF ∧ rm r = M * 2 ^ E
  | 0, M, E, hM, hE, hn => by
    have hI := INF_eq
    have h0 : E = 0 := by omega
    subst h0
    refine ⟨M, by omega, ?_⟩
    have := rm_seg 0 M (.inl rfl) (by omega)
    simpa using this
  | n + 1, M, E, hM, hE, hn => by
    have hI := INF_eq
    by_cases h1 : M < 4503599627370496
    · obtain ⟨r, hr1, hr2⟩ := rep_up n (2 * M) (E - 1) (by omega) (by omega) (by omega)
      refine ⟨r, hr1, ?_⟩
      obtain ⟨F, rfl⟩ : ∃ F, E = F + 1 := ⟨E - 1, by omega⟩
      rw [hr2, Nat.add_sub_cancel, Nat.pow_succ, Nat.mul_comm 2 M, Nat.mul_assoc, Nat.mul_comm 2 (2 ^ F)]
    · exact ⟨E * 4503599627370496 + M, by omega, rm_seg E M (.inr (by omega)) (by omega)⟩

theorem rep_yes {M : Nat} {E : Int} (hM : M < 9007199254740992) (h1 : -1074 ≤ E) (h2 : E ≤ 971) : rep ((M : Rat) * pw E) := by
  obtain ⟨F, hF⟩ : ∃ F : Nat, E = (F : Int) + -1074 := ⟨(E + 1074).toNat, by omega⟩
  obtain ⟨r, hr1, hr2⟩ := rep_up F M F hM (by omega) rfl
  refine ⟨r, hr1, ?_⟩
  rw [hr2, hF, pw_add, Rat.natCast_mul, ← pw_nat]
  grind

theorem rep_no_big {V : Rat} (h : pw 1024 ≤ V) : ¬ rep V := by
  rintro ⟨r, hr1, rfl⟩
  have h1 := unit_lt.2 (rm_strict hr1)
  rw [rm_inf] at h1
  grind

theorem rep_no_small {V : Rat} (h0 : 0 < V) (h : V < pw (-1074)) : ¬ rep V := by
  rintro ⟨r, hr1, rfl⟩
  rcases Nat.eq_zero_or_pos r with h1 | h1
  · rw [h1, rm_zero] at h0
    exact absurd h0 (by rw [show ((0 : Nat) : Rat) = 0 from rfl, Rat.zero_mul]; exact Rat.lt_irrefl)
  · have h2 := rm_pos h1
    have h3 : ((1 : Nat) : Rat) * pw (-1074) ≤ (rm r : Rat) * pw (-1074) := unit_le.2 h2
    rw [show ((1 : Nat) : Rat) = 1 from rfl, Rat.one_mul] at h3
    grind

theorem cancel_pw {a b : Nat} {k : Int} (h : (a : Rat) * pw k = (b : Rat) * pw k) : a = b := by
  have h1 := cast_le.1 (Rat.le_of_mul_le_mul_right (le_of_eqR h) (pw_pos k))
  have h2 := cast_le.1 (Rat.le_of_mul_le_mul_right (le_of_eqR h.symm) (pw_pos k))
  omega

theorem rep_no_odd {M : Nat} {E : Int} (hodd : M % 2 = 1) (h : E < -1074 ∨ 9007199254740992 ≤ M) : ¬ rep ((M : Rat) * pw E) := by
  rintro ⟨r, hr1, hr2⟩
  rcases Int.lt_or_le E (-1074) with h1 | h1
  · obtain ⟨d, hd⟩ : ∃ d : Nat, (-1074 : Int) = (d + 1 : Nat) + E := ⟨(-1074 - E - 1).toNat, by omega⟩
    rw [hd, pw_add, pw_nat, ← Rat.mul_assoc, ← Rat.natCast_mul] at hr2
    have h2 := cancel_pw hr2
    rw [Nat.pow_succ, ← Nat.mul_assoc] at h2
    omega
  · have h3 : 9007199254740992 ≤ M := by omega
    obtain ⟨F, hF⟩ : ∃ F : Nat, E = (F : Int) + -1074 := ⟨(E + 1074).toNat, by omega⟩
    rw [hF, pw_add, pw_nat, ← Rat.mul_assoc, ← Rat.natCast_mul] at hr2
    have h2 := cancel_pw hr2
    obtain ⟨s, k, rfl, hs, hk⟩ := rung_seg r
    rw [rm_seg s k hs (by omega)] at h2
    rcases Nat.lt_or_ge s F with h4 | h4
    · obtain ⟨d, rfl⟩ : ∃ d, F = s + d := ⟨F - s, by omega⟩
      rw [Nat.pow_add, Nat.mul_comm (2 ^ s), ← Nat.mul_assoc] at h2
      have h5 := Nat.eq_of_mul_eq_mul_right (Nat.two_pow_pos s) h2
      have h6 := Nat.le_mul_of_pos_right M (Nat.two_pow_pos d)
      omega
    · obtain ⟨d, rfl⟩ : ∃ d, s = F + d := ⟨s - F, by omega⟩
      rw [Nat.pow_add, Nat.mul_comm (2 ^ F), ← Nat.mul_assoc] at h2
      have h5 := Nat.eq_of_mul_eq_mul_right (Nat.two_pow_pos F) h2
      rcases Nat.eq_zero_or_pos d with h6 | h6
      · subst h6; simp at h5; omega
      · obtain ⟨d', rfl⟩ : ∃ d', d = d' + 1 := ⟨d - 1, by omega⟩
        rw [Nat.pow_succ, ← Nat.mul_assoc] at h5
        omega

/-- What bits.Make answers. -/
def makeB (m : Nat) (e : Int) : Bool := decide (m = 0) || (decide (rr ((m : Rat) * pw e) < INF) && decide ((rm (rr ((m : Rat) * pw e)) : Rat) * pw (-1074) = (m : Rat) * pw e))
def makeF (neg : Bool) (m : Nat) (e : Int) : Nat := if m = 0 then D.word neg 0 else if makeB m e then D.word neg (rr ((m : Rat) * pw e)) else 0

theorem mpw_nonneg (m : Nat) (e : Int) : 0 ≤ (m : Rat) * pw e := Rat.mul_nonneg Rat.natCast_nonneg (Rat.le_of_lt (pw_pos _))
theorem make_yes {neg : Bool} {m : Nat} {e : Int} {r : Nat} (hr : r < INF) (h : (rm r : Rat) * pw (-1074) = (m : Rat) * pw e) : makeB m e = true ∧ makeF neg m e = D.word neg r := by
  have h1 : rr ((m : Rat) * pw e) = r := by
    rw [← h]; exact ((IsRnd.exact hr).eq_rr (by rw [h]; exact mpw_nonneg _ _)).symm
  have hb : makeB m e = true := by
    unfold makeB
    rw [h1, decide_eq_true hr, decide_eq_true h]; simp
  refine ⟨hb, ?_⟩
  unfold makeF
  by_cases hm : m = 0
  · rw [if_pos hm]
    subst hm
    have : r = 0 := by
      rw [← h1, show ((0 : Nat) : Rat) = 0 from rfl, Rat.zero_mul]; exact (IsRnd.zero.eq_rr (by decide)).symm
    rw [this]
  · rw [if_neg hm, if_pos hb, h1]
theorem make_no {m : Nat} {e : Int} (hm : m ≠ 0) (h : ¬ rep ((m : Rat) * pw e)) : makeB m e = false ∧ ∀ neg, makeF neg m e = 0 := by
  have hb : makeB m e = false := by
    unfold makeB
    rw [decide_eq_false hm]
    by_cases h1 : rr ((m : Rat) * pw e) < INF
    · have h2 : ¬ (rm (rr ((m : Rat) * pw e)) : Rat) * pw (-1074) = (m : Rat) * pw e := fun h3 => h ⟨_, h1, h3⟩
      rw [decide_eq_false h2]; simp
    · rw [decide_eq_false h1]; simp
  refine ⟨hb, fun neg => ?_⟩
  unfold makeF
  rw [if_neg hm, if_neg (by rw [hb]; decide)]
theorem make_lt (neg : Bool) (m : Nat) (e : Int) : makeF neg m e < 18446744073709551616 := by
  unfold makeF
  split
  · exact word_lt64 _ _ (by decide)
  · split
    · exact word_lt64 _ _ (rr_spec (mpw_nonneg m e)).lt63
    · decide

theorem rep_no_far {m : Nat} {e : Int} (h0 : m ≠ 0) (hm : m < 18446744073709551616) (h : e < -2000 ∨ 2000 < e) : ¬ rep ((m : Rat) * pw e) := by
  have h1 : (1 : Rat) ≤ (m : Rat) := by
    have : ((1 : Nat) : Rat) ≤ (m : Rat) := cast_le.2 (by omega)
    simpa using this
  have hp := pw_pos e
  rcases h with h | h
  · refine rep_no_small ?_ ?_
    · exact Rat.mul_pos (by grind) hp
    · have h2 : (m : Rat) < pw 64 := by
        rw [show (64 : Int) = ((64 : Nat) : Int) from rfl, pw_nat]; exact cast_lt.2 hm
      have h3 := Rat.mul_lt_mul_of_pos_right h2 hp
      rw [← pw_add] at h3
      have h4 := pw_le (show 64 + e ≤ -1074 by omega)
      grind
  · refine rep_no_big ?_
    have h2 := Rat.mul_le_mul_of_nonneg_right h1 (Rat.le_of_lt hp)
    have h3 := pw_le (show 1024 ≤ e by omega)
    grind

/-- The loops' end in bits.fit. -/
theorem fit_no {M : Nat} {E : Int} (h1 : M % 2 = 1 ∨ 971 ≤ E) (h2 : ¬ (971 < E ∧ M < 4503599627370496)) (h : ¬ (M < 9007199254740992 ∧ -1074 ≤ E ∧ E ≤ 971)) : ¬ rep ((M : Rat) * pw E) := by
  by_cases c1 : 971 < E
  · refine rep_no_big ?_
    have h3 : ((4503599627370496 : Nat) : Rat) * pw E ≤ (M : Rat) * pw E := Rat.mul_le_mul_of_nonneg_right (cast_le.2 (by omega)) (Rat.le_of_lt (pw_pos _))
    rw [← pw52, ← pw_add] at h3
    have h4 := pw_le (show 1024 ≤ 52 + E by omega)
    grind
  · by_cases c2 : E < -1074
    · exact rep_no_odd (by omega) (.inl c2)
    · have h3 : 9007199254740992 ≤ M := by omega
      rcases h1 with h1 | h1
      · exact rep_no_odd h1 (.inr h3)
      · refine rep_no_big ?_
        have h4 : ((9007199254740992 : Nat) : Rat) * pw E ≤ (M : Rat) * pw E := Rat.mul_le_mul_of_nonneg_right (cast_le.2 h3) (Rat.le_of_lt (pw_pos _))
        rw [← pw53, ← pw_add] at h4
        have h5 := pw_le (show 1024 ≤ 53 + E by omega)
        grind

/-- The loops' end in the document's Make. -/
theorem ref_no {M : Nat} {E : Int} (h1 : M % 2 = 1 ∨ (M < 9007199254740992 ∧ -1074 ≤ E)) (h2 : ¬ (M < 4503599627370496 ∧ -1074 < E)) (h : 9007199254740992 ≤ M ∨ E < -1074 ∨ 971 < E) : ¬ rep ((M : Rat) * pw E) := by
  by_cases c1 : 971 < E
  · refine rep_no_big ?_
    have h3 : ((4503599627370496 : Nat) : Rat) * pw E ≤ (M : Rat) * pw E := Rat.mul_le_mul_of_nonneg_right (cast_le.2 (by omega)) (Rat.le_of_lt (pw_pos _))
    rw [← pw52, ← pw_add] at h3
    have h4 := pw_le (show 1024 ≤ 52 + E by omega)
    grind
  · exact rep_no_odd (by omega) (by omega)

theorem halve_val {M : Nat} {E : Int} (h : M % 2 = 0) : ((M / 2 : Nat) : Rat) * pw (E + 1) = (M : Rat) * pw E := by
  have h1 : M = 2 * (M / 2) := by omega
  rw [pw_double]
  have h2 : (M : Rat) = 2 * ((M / 2 : Nat) : Rat) := by rw [← two_cast, ← Rat.natCast_mul, ← h1]
  rw [h2]; grind
theorem double_val {M : Nat} {E : Int} : ((2 * M : Nat) : Rat) * pw (E - 1) = (M : Rat) * pw E := by
  have h1 : pw E = 2 * pw (E - 1) := by rw [← pw_double]; congr 1; omega
  rw [h1, Rat.natCast_mul, two_cast]; grind

theorem shift_few {M j m : Nat} (h : M * 2 ^ j = m) (h0 : 0 < M) (hm : m < 18446744073709551616) : j < 64 := by
  rcases Nat.lt_or_ge j 64 with h1 | h1
  · exact h1
  · have h2 := Nat.pow_le_pow_right (n := 2) (by decide) h1
    have h3 : (2 : Nat) ^ 64 = 18446744073709551616 := by decide
    have h4 := Nat.le_mul_of_pos_left (2 ^ j) h0
    omega
theorem shift_le {M j m : Nat} (h : M * 2 ^ j = m) : M ≤ m := by
  rw [← h]; exact Nat.le_mul_of_pos_right M (Nat.two_pow_pos j)
theorem shift_half {M j m : Nat} (h : M * 2 ^ j = m) (h2 : M % 2 = 0) : M / 2 * 2 ^ (j + 1) = m := by
  have h3 : M = 2 * (M / 2) := by omega
  rw [Nat.pow_succ, ← h, Nat.mul_comm (2 ^ j) 2, ← Nat.mul_assoc, Nat.mul_comm (M / 2) 2, ← h3]
theorem shift_val {M j m : Nat} {e : Int} (h : M * 2 ^ j = m) : (M : Rat) * pw (e + j) = (m : Rat) * pw e := by
  rw [← h, Rat.natCast_mul, ← pw_nat, pw_add]; grind

/-- A whole number below 2^53, as a float. -/
theorem ofInt_whole {M : Nat} (h : M < 9007199254740992) : ∃ r, r < INF ∧ floatOfInt .f64 (M : Int) = r ∧ (rm r : Rat) * pw (-1074) = (M : Rat) := by
  obtain ⟨r, hr1, hr2⟩ := rep_yes (M := M) (E := 0) h (by decide) (by decide)
  rw [pw_zero, Rat.mul_one] at hr2
  refine ⟨r, hr1, ?_, hr2⟩
  show D.write (.number (decide ((M : Int) < 0)) (M : Int).natAbs 0) = r
  have e1 : decide ((M : Int) < 0) = false := decide_eq_false (by omega)
  rw [e1, Int.natAbs_natCast]
  obtain ⟨s, hs1, hs2⟩ := write_spec false M 0
  rw [pw_zero, Rat.mul_one] at hs2
  have h2 := IsRnd.exact hr1
  rw [hr2] at h2
  rw [hs1, hs2.unique h2, word_false]

/-- Ldexp of a whole number is what Make answers. -/
theorem ldS_make {M r0 : Nat} {E : Int} (hM : M < 9007199254740992) (h1 : -1074 ≤ E) (h2 : E ≤ 971) (hr0 : r0 < INF) (hv : (rm r0 : Rat) * pw (-1074) = (M : Rat)) {m : Nat} {e : Int} (heq : (M : Rat) * pw E = (m : Rat) * pw e) :
    makeB m e = true ∧ makeF false m e = ldS r0 E ∧ rg (ldS r0 E) = ldS r0 E ∧ ∀ neg, makeF neg m e = D.word neg (ldS r0 E) := by
  obtain ⟨r, hr1, hr2⟩ := rep_yes (M := M) (E := E) hM h1 h2
  have hI := INF_eq
  have hr63 : r < 9223372036854775808 := by omega
  have e1 : rg r0 = r0 := Nat.mod_eq_of_lt (by omega)
  have e2 : sg r0 = false := by unfold sg; rw [Nat.div_eq_of_lt (by omega)]; rfl
  have hl : ldS r0 E = r := by
    unfold ldS
    rw [e2, word_false, ab_fv, e1, hv]
    have h3 := IsRnd.exact hr1
    rw [hr2] at h3
    exact (h3.eq_rr (mpw_nonneg _ _)).symm
  rw [hl]
  have hmk : ∀ neg, makeB m e = true ∧ makeF neg m e = D.word neg r := fun neg => make_yes hr1 (by rw [hr2, heq])
  exact ⟨(hmk false).1, by rw [(hmk false).2, word_false], Nat.mod_eq_of_lt hr63, fun neg => (hmk neg).2⟩

end Lev
