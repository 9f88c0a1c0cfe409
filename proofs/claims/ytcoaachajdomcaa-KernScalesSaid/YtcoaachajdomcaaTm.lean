/- KernMost in plain Lean: no entry's size is above the sum of sizes, nor above the norm. -/
import Derived.Test.YtcoaachajdomcaaTl
namespace Lev

theorem IsRndS.mono {x y : Rat} {r s : Nat} (hx : IsRndS x r) (hy : IsRndS y s) (h : x ≤ y) : r ≤ s := by
  rcases Nat.lt_or_ge s r with hlt | hge
  · exfalso
    obtain ⟨hr, _, hr2⟩ := hx
    obtain ⟨hs, hs1, _⟩ := hy
    obtain ⟨a1, a2⟩ := hr2 (by omega)
    obtain ⟨b1, b2⟩ := hs1 (by omega)
    have h3 := Rat.le_trans a1 (Rat.le_trans h b1)
    have h5 : r - 1 = s := by
      rcases Nat.lt_or_ge s (r - 1) with h6 | h6
      · exfalso
        have h7 : (mid2 s : Rat) * pw (-1075) < (mid2 (r - 1) : Rat) * pw (-1075) := Rat.mul_lt_mul_of_pos_right (cast_lt.2 (mid2_lt h6)) (pw_pos _)
        have h8 := sq_lt (Rat.mul_nonneg Rat.natCast_nonneg (Rat.le_of_lt (pw_pos _))) h7
        exact absurd h3 (by grind)
      · omega
    subst h5
    have e1 := Rat.le_antisymm (Rat.le_trans h b1) a1
    have e2 := Rat.le_antisymm b1 (Rat.le_trans a1 h)
    have p1 := a2 e1.symm
    have p2 := b2 e2
    omega
  · exact hge
theorem IsRndS.unique {x : Rat} {r s : Nat} (hx : IsRndS x r) (hy : IsRndS x s) : r = s :=
  Nat.le_antisymm (hx.mono hy Rat.le_refl) (hy.mono hx Rat.le_refl)

/-- The whole numbers behind: c is 2^968. -/
theorem root_nat {k S S1 S0 c : Nat} (hc : 0 < c) (hk : 4503599627370496 < k) (hk2 : k < 9007199254740992)
    (hup : S0 + S ≤ 8 * (k * k * c)) (hg0 : S ≤ S0 + 36028797018963968 * c)
    (hlo : 8 * (k * k * c) ≤ S + S1) (hg1 : S1 ≤ S + 36028797018963968 * c) :
    S < (2 * k + 1) * (2 * k + 1) * c ∧ (2 * k - 1) * (2 * k - 1) * c < S := by
  have e1 : (2 * k + 1) * (2 * k + 1) * c = 4 * (k * k * c) + 4 * (k * c) + c := by
    have h0 : (2 * k + 1) * (2 * k + 1) = 4 * (k * k) + 4 * k + 1 := by
      rw [Nat.mul_add, Nat.add_mul]
      have : 2 * k * (2 * k) = 4 * (k * k) := by rw [Nat.mul_mul_mul_comm]
      omega
    rw [h0]
    rw [Nat.add_mul, Nat.add_mul, Nat.mul_assoc 4, Nat.mul_assoc 4, Nat.one_mul]
  obtain ⟨j, rfl⟩ : ∃ j, k = j + 1 := ⟨k - 1, by omega⟩
  have e2 : (2 * (j + 1) - 1) * (2 * (j + 1) - 1) * c + 4 * ((j + 1) * c) = 4 * ((j + 1) * (j + 1) * c) + c := by
    rw [show 2 * (j + 1) - 1 = 2 * j + 1 from by omega]
    have h1 : (2 * j + 1) * (2 * j + 1) = 4 * (j * j) + 4 * j + 1 := by
      rw [Nat.mul_add, Nat.add_mul]; have : 2 * j * (2 * j) = 4 * (j * j) := by rw [Nat.mul_mul_mul_comm]
      omega
    have h2 : (j + 1) * (j + 1) = j * j + 2 * j + 1 := by rw [Nat.mul_add, Nat.add_mul]; omega
    rw [h1, h2]
    simp only [Nat.add_mul, Nat.mul_assoc, Nat.one_mul]
    omega
  have h3 : 4503599627370497 * c ≤ (j + 1) * c := Nat.mul_le_mul_right c (by omega)
  generalize (j + 1) * (j + 1) * c = kk at *
  generalize (j + 1) * c = kc at *
  omega

theorem unit_le' {a b : Nat} (h : (a : Rat) * pw (-1074) ≤ 2 * ((b : Rat) * pw (-1074))) : a ≤ 2 * b := by
  have e : 2 * ((b : Rat) * pw (-1074)) = ((2 * b : Nat) : Rat) * pw (-1074) := by rw [Rat.natCast_mul, ← Rat.mul_assoc]; rfl
  rw [e] at h
  exact unit_le.1 h
theorem unit_le2 {a b : Nat} (h : 2 * ((b : Rat) * pw (-1074)) ≤ (a : Rat) * pw (-1074)) : 2 * b ≤ a := by
  have e : 2 * ((b : Rat) * pw (-1074)) = ((2 * b : Nat) : Rat) * pw (-1074) := by rw [Rat.natCast_mul, ← Rat.mul_assoc]; rfl
  rw [e] at h
  exact unit_le.1 h
set_option exponentiation.threshold 3000 in
/-- A number against the square of a half way. -/
theorem half_sq {S M : Nat} : (S : Rat) * pw (-1074) = ((S * 2 ^ 1076 : Nat) : Rat) * pw (-2150) ∧ ((M : Rat) * pw (-1075)) * ((M : Rat) * pw (-1075)) = ((M * M : Nat) : Rat) * pw (-2150) := by
  constructor
  · rw [Rat.natCast_mul, ← pw_nat, Rat.mul_assoc, ← pw_add]; rfl
  · rw [Rat.natCast_mul, show (-2150 : Int) = -1075 + -1075 from rfl, pw_add]
    grind

set_option exponentiation.threshold 3000 in
/-- The gap above a rung below 4. -/
theorem gap_le {s : Nat} (h : s < 4616189618054758400) : rm (s + 1) ≤ rm s + 36028797018963968 * 2 ^ 968 := by
  obtain ⟨e, k, rfl, he, hk⟩ := rung_seg s
  rw [rm_succ_seg e k he hk, rm_seg e k he (by omega), Nat.add_mul, Nat.one_mul]
  have h1 : e ≤ 1023 := by rcases he with h | h <;> omega
  have h2 : 2 ^ e ≤ 2 ^ 1023 := Nat.pow_le_pow_right (by decide) h1
  have h3 : 36028797018963968 * 2 ^ 968 = 2 ^ 1023 := by
    rw [show 36028797018963968 = 2 ^ 55 from by decide, ← Nat.pow_add]
  rw [h3]
  exact Nat.add_le_add_left h2 _

set_option exponentiation.threshold 3000 in
theorem root_back {k s : Nat} (hk : 4503599627370496 < k) (hk2 : k < 9007199254740992) (hs : IsRnd (((k * k * (4 * 2 ^ 968) : Nat) : Rat) * pw (-1074)) s) :
    IsRndS ((rm s : Rat) * pw (-1074)) (1022 * 4503599627370496 + k) := by
  have hI := INF_eq
  -- below 4
  have h4 : rm 4616189618054758400 = 2 ^ 108 * 2 ^ 968 := by
    rw [show 4616189618054758400 = 1024 * 4503599627370496 + 4503599627370496 from by decide, rm_seg 1024 4503599627370496 (.inr (Nat.le_refl _)) (by decide), show 4503599627370496 = 2 ^ 52 from by decide, ← Nat.pow_add]
  have hkk : k * k * (4 * 2 ^ 968) < 2 ^ 108 * 2 ^ 968 := by
    have h1 : k * k < 9007199254740992 * 9007199254740992 := Nat.mul_lt_mul_of_lt_of_le hk2 (Nat.le_of_lt hk2) (by decide)
    have h2 : 9007199254740992 * 9007199254740992 * 4 = 2 ^ 108 := by decide
    rw [← Nat.mul_assoc]
    exact Nat.mul_lt_mul_of_pos_right (by omega) (Nat.pow_pos (by decide))
  have hs4 : s ≤ 4616189618054758400 := hs.mono (IsRnd.exact (r := 4616189618054758400) (by omega)) (unit_le.2 (by rw [h4]; exact Nat.le_of_lt hkk))
  have hs0 : 0 < s := by
    rcases Nat.eq_zero_or_pos s with h | h
    · exfalso
      subst h
      have h1 := unit_le2 (hs.2.1 (by omega)).1
      have h2 : mid2 0 = 1 := by decide
      rw [h2] at h1
      have h3 : 0 < k * k * (4 * 2 ^ 968) := Nat.mul_pos (Nat.mul_pos (by omega) (by omega)) (Nat.mul_pos (by decide) (Nat.pow_pos (by decide)))
      omega
    · exact h
  have hm2 : mid2 (1022 * 4503599627370496 + k) = (2 * k + 1) * 2 ^ 1022 := mid2_seg 1022 k (.inr (by omega)) hk2
  have hm1 : mid2 (1022 * 4503599627370496 + k - 1) = (2 * k - 1) * 2 ^ 1022 := by
    rw [show 1022 * 4503599627370496 + k - 1 = 1022 * 4503599627370496 + (k - 1) from by omega, mid2_seg 1022 (k - 1) (.inr (by omega)) (by omega), show 2 * (k - 1) + 1 = 2 * k - 1 from by omega]
  have hcc : (2 : Nat) ^ 1022 * 2 ^ 1022 = 2 ^ 968 * 2 ^ 1076 := by rw [← Nat.pow_add]
  have hc0 : 0 < 2 ^ 968 := Nat.pow_pos (by decide)
  have key : rm s < (2 * k + 1) * (2 * k + 1) * 2 ^ 968 ∧ (2 * k - 1) * (2 * k - 1) * 2 ^ 968 < rm s := by
    have e8 : 2 * (k * k * (4 * 2 ^ 968)) = 8 * (k * k * 2 ^ 968) := by rw [Nat.mul_left_comm (k * k) 4, ← Nat.mul_assoc]
    have hup := unit_le' (hs.2.2 hs0).1
    rw [e8] at hup
    have hg0 := gap_le (s := s - 1) (by omega)
    rw [show s - 1 + 1 = s from by omega] at hg0
    have hu2 : rm (s - 1) + rm s ≤ 8 * (k * k * 2 ^ 968) := by unfold mid2 at hup; rw [show s - 1 + 1 = s from by omega] at hup; exact hup
    rcases Nat.lt_or_ge s 4616189618054758400 with hlt | hge
    · have hlo := unit_le2 (hs.2.1 (by omega)).1
      rw [e8] at hlo
      unfold mid2 at hlo
      exact root_nat hc0 hk hk2 hu2 hg0 hlo (gap_le hlt)
    · have hse : s = 4616189618054758400 := by omega
      have hbig : 8 * (k * k * 2 ^ 968) ≤ rm s + rm s := by
        rw [hse, h4, ← e8]; omega
      have h := root_nat hc0 hk hk2 hu2 hg0 hbig (Nat.le_add_right _ _)
      exact h
  refine ⟨by omega, fun _ => ?_, fun _ => ?_⟩
  · have h1 : (2 * k + 1) * 2 ^ 1022 * ((2 * k + 1) * 2 ^ 1022) = (2 * k + 1) * (2 * k + 1) * 2 ^ 968 * 2 ^ 1076 := by
      rw [Nat.mul_mul_mul_comm, hcc, ← Nat.mul_assoc]
    have h2 : rm s * 2 ^ 1076 < (2 * k + 1) * 2 ^ 1022 * ((2 * k + 1) * 2 ^ 1022) := by
      rw [h1]; exact Nat.mul_lt_mul_of_pos_right key.1 (Nat.pow_pos (by decide))
    have h3 := Rat.mul_lt_mul_of_pos_right (cast_lt.2 h2) (pw_pos (-2150))
    rw [← (half_sq (S := rm s) (M := 0)).1, ← (half_sq (S := 0) (M := (2 * k + 1) * 2 ^ 1022)).2, ← hm2] at h3
    exact ⟨Rat.le_of_lt h3, fun he => absurd he (Rat.ne_of_lt h3)⟩
  · have h1 : (2 * k - 1) * 2 ^ 1022 * ((2 * k - 1) * 2 ^ 1022) = (2 * k - 1) * (2 * k - 1) * 2 ^ 968 * 2 ^ 1076 := by
      rw [Nat.mul_mul_mul_comm, hcc, ← Nat.mul_assoc]
    have h2 : (2 * k - 1) * 2 ^ 1022 * ((2 * k - 1) * 2 ^ 1022) < rm s * 2 ^ 1076 := by
      rw [h1]; exact Nat.mul_lt_mul_of_pos_right key.2 (Nat.pow_pos (by decide))
    have h3 := Rat.mul_lt_mul_of_pos_right (cast_lt.2 h2) (pw_pos (-2150))
    rw [← (half_sq (S := rm s) (M := 0)).1, ← (half_sq (S := 0) (M := (2 * k - 1) * 2 ^ 1022)).2, ← hm1] at h3
    exact ⟨Rat.le_of_lt h3, fun he => absurd he (Rat.ne_of_lt h3)⟩

theorem fmul_val {y s : Nat} (h : D.mul y y = some (D.word (sg y ^^ sg y) s)) : fmul y y = s := by
  unfold fmul; rw [h, Bool.xor_self]; exact word_false s

set_option exponentiation.threshold 3000 in
/-- The root of a square, of a float from 1 up to 2. -/
theorem sqrt_sq {y : Nat} (h1 : 4607182418800017408 ≤ rg y) (h2 : rg y < 4611686018427387904) : sqrtF (fmul y y) = rg y := by
  have hI := INF_eq
  have hf : fin y := by unfold fin; omega
  by_cases h0 : rg y = 4607182418800017408
  · -- 1
    obtain ⟨s, m1, m2⟩ := mul_spec hf hf
    have hv : ab (fv y) = pw 0 := by rw [ab_fv, h0, ← ab_pw 0, ← c0, ab_fv]; rfl
    have hp : ab (fv y * fv y) = pw 0 := by rw [ab_mul, hv, ← pw_add]; rfl
    rw [hp] at m2
    have hx : IsRnd (pw 0) 4607182418800017408 := by
      have := IsRnd.exact (r := 4607182418800017408) (by omega)
      rw [← hv, ab_fv, h0]; exact this
    have hs : s = 4607182418800017408 := m2.unique hx
    rw [fmul_val m1, hs, h0]
    decide +kernel
  · obtain ⟨k, hk⟩ : ∃ k, rg y = 1022 * 4503599627370496 + k := ⟨rg y - 1022 * 4503599627370496, by omega⟩
    obtain ⟨s, m1, m2⟩ := mul_spec hf hf
    have hv : ab (fv y) = ((k * 2 ^ 1022 : Nat) : Rat) * pw (-1074) := by rw [ab_fv, hk, rm_seg 1022 k (.inr (by omega)) (by omega)]
    have hp : ab (fv y * fv y) = ((k * k * (4 * 2 ^ 968) : Nat) : Rat) * pw (-1074) := by
      rw [ab_mul, hv]
      have e1 : ((k * 2 ^ 1022 : Nat) : Rat) = (k : Rat) * pw 1022 := by rw [Rat.natCast_mul, ← pw_nat]; rfl
      have e2 : ((k * k * (4 * 2 ^ 968) : Nat) : Rat) = (k : Rat) * k * pw 970 := by
        rw [show 4 * 2 ^ 968 = 2 ^ 970 from by rw [show 4 = 2 ^ 2 from rfl, ← Nat.pow_add], Rat.natCast_mul, Rat.natCast_mul, ← pw_nat]; rfl
      rw [e1, e2]
      have e3 : pw 1022 * pw (-1074) * (pw 1022 * pw (-1074)) = pw 970 * pw (-1074) := by
        rw [← pw_add, ← pw_add, ← pw_add]; rfl
      grind
    rw [hp] at m2
    have hr := root_back (by omega) (by omega) m2
    have hsI : s < INF := by
      have h4 := m2.mono (IsRnd.exact (r := 4620693217682128896) (by omega)) (by
        refine unit_le.2 ?_
        rw [show 4620693217682128896 = 1025 * 4503599627370496 + 4503599627370496 from by decide, rm_seg 1025 4503599627370496 (.inr (Nat.le_refl _)) (by decide)]
        have h5 : k * k ≤ 9007199254740992 * 9007199254740992 := Nat.mul_le_mul (by omega) (by omega)
        have h6 : 4503599627370496 * 2 ^ 1025 = 9007199254740992 * 9007199254740992 * (8 * 2 ^ 968) := by
          rw [show 4503599627370496 = 2 ^ 52 from by decide, show 9007199254740992 * 9007199254740992 = 2 ^ 106 from by decide, show 8 = 2 ^ 3 from rfl, ← Nat.pow_add]
        rw [h6]
        exact Nat.mul_le_mul h5 (Nat.mul_le_mul_right _ (by decide)))
      omega
    have hw : fmul y y = s := fmul_val m1
    have hgs : rg s = s := by unfold rg; omega
    have hss : sg s = false := by rw [← word_false s]; exact sg_word _ _ (by omega)
    have hs0 : s ≠ 0 := by
      intro h
      subst h
      have := hr.2.2 (by omega)
      rw [rm_zero] at this
      have h9 : ((0 : Nat) : Rat) * pw (-1074) = 0 := by rw [show ((0 : Nat) : Rat) = 0 from rfl, Rat.zero_mul]
      rw [h9] at this
      have h7 : (0 : Rat) < (mid2 (1022 * 4503599627370496 + k - 1) : Rat) * pw (-1075) := Rat.mul_pos (by have : 0 < mid2 (1022 * 4503599627370496 + k - 1) := by { unfold mid2; have := rm_pos (r := 1022 * 4503599627370496 + k - 1 + 1) (by omega); omega }; exact_mod_cast this) (pw_pos _)
      have h8 := Rat.mul_pos h7 h7
      grind
    obtain ⟨r, q1, q2⟩ := sqrt_spec (a := s) (by unfold fin; omega) hss (by omega)
    have hfv : fv s = (rm s : Rat) * pw (-1074) := by unfold fv; rw [hss, hgs]; rfl
    rw [hfv] at q2
    have := q2.unique hr
    unfold sqrtF
    rw [hw, q1, this, hk]
    exact word_false _

theorem fv_pos {a : Nat} (h : sg a = false) : fv a = (rm (rg a) : Rat) * pw (-1074) := by unfold fv; rw [h]; rfl
theorem exact_rg {a : Nat} (h : fin a) : IsRnd ((rm (rg a) : Rat) * pw (-1074)) (rg a) := IsRnd.exact h
theorem ab_of {x : Rat} (h : 0 ≤ x) : ab x = x := by unfold ab; rw [if_neg (by grind)]
theorem fadd_ge {a b : Nat} (ha : fin a) (hb : fin b) (h1 : sg a = false) (h2 : sg b = false) : rg a ≤ rg (fadd a b) ∧ rg b ≤ rg (fadd a b) := by
  obtain ⟨r, m1, m2⟩ := add_spec ha hb
  have hr : rg (fadd a b) = r := by
    unfold fadd; rw [m1]; exact rg_word _ _ m2.lt63
  rw [hr]
  have n1 := fv_nonneg h1
  have n2 := fv_nonneg h2
  rw [ab_of (by grind)] at m2
  constructor
  · exact (exact_rg ha).mono m2 (by rw [← fv_pos h1]; grind)
  · exact (exact_rg hb).mono m2 (by rw [← fv_pos h2]; grind)
/-- Each part of a sum without signs is not above it. -/
theorem sumT_ge {t : Nat → Nat} {E : Int} (h1 : -1074 ≤ E) (h2 : E ≤ 971) : ∀ k : Nat, k ≤ 1000 → (∀ i, i < k → fin (t i) ∧ ab (fv (t i)) ≤ pw E ∧ sg (t i) = false) → ∀ i, i < k → rg (t i) ≤ rg (sumT t k) := by
  intro k
  induction k with
  | zero => intro _ _ i hi; omega
  | succ k ih =>
    intro hk ht i hi
    have a1 := sumT_sg h1 h2 k (by omega) (fun i hi => ht i (by omega))
    have a2 := (sumT_bd h1 h2 k (by omega) (fun i hi => ⟨(ht i (by omega)).1, (ht i (by omega)).2.1⟩)).1
    obtain ⟨b1, b2, b3⟩ := ht k (by omega)
    obtain ⟨g1, g2⟩ := fadd_ge a2 b1 a1 b3
    show rg (t i) ≤ rg (fadd (sumT t k) (t k))
    rcases (by omega : i < k ∨ i = k) with h | rfl
    · exact Nat.le_trans (ih (by omega) (fun i hi => ht i (by omega)) i h) g1
    · exact g2
theorem add_zero_l {a : Nat} (ha : fin a) (h : sg a = false) (hl : a < 18446744073709551616) : fadd 0 a = a := by
  have h0 : fin 0 := fin_zero
  have hv : fv 0 = 0 := by unfold fv; rw [show sg 0 = false from by decide, show rg 0 = 0 from by decide, rm_zero]; show ((0 : Nat) : Rat) * _ = 0; rw [show ((0 : Nat) : Rat) = 0 from rfl, Rat.zero_mul]
  obtain ⟨r, m1, m2⟩ := add_spec h0 ha
  have n2 := fv_nonneg h
  rw [hv, Rat.zero_add, ab_of n2, fv_pos h] at m2
  have hr := m2.unique (exact_rg ha)
  unfold fadd
  rw [m1, hv, Rat.zero_add]
  show D.word _ r = a
  have hs : sumSg (sg 0) (sg a) (fv a) = false := by
    unfold sumSg
    rw [h]
    split
    · simp
    · rw [decide_eq_false_iff_not]; grind
  rw [hs, hr, ← h]
  exact word_sg_rg a hl

theorem sqrtF_mono {a b : Nat} (ha : fin a) (hb : fin b) (h1 : sg a = false) (h2 : sg b = false) (h : rg a ≤ rg b) : rg (sqrtF a) ≤ rg (sqrtF b) := by
  by_cases h0 : rg a = 0
  · have e := sqrt_zero h0
    have : sqrtF a = D.word (sg a) 0 := by unfold sqrtF; rw [e]; rfl
    rw [this, rg_word _ _ (by decide)]
    exact Nat.zero_le _
  · obtain ⟨r, p1, p2⟩ := sqrt_spec ha h1 h0
    obtain ⟨s, q1, q2⟩ := sqrt_spec hb h2 (by omega)
    have e1 : sqrtF a = D.word false r := by unfold sqrtF; rw [p1]; rfl
    have e2 : sqrtF b = D.word false s := by unfold sqrtF; rw [q1]; rfl
    have hI := INF_eq
    have l1 := p2.1
    have l2 := q2.1
    rw [e1, e2, rg_word _ _ (by omega), rg_word _ _ (by omega)]
    exact p2.mono q2 (by rw [fv_pos h1, fv_pos h2]; exact unit_le.2 (rm_mono h))
theorem ldS_mono {a b : Nat} {k : Int} (h : rg a ≤ rg b) : rg (ldS a k) ≤ rg (ldS b k) := by
  have s1 := rr_spec (mul_pw_nonneg a k)
  have s2 := rr_spec (mul_pw_nonneg b k)
  unfold ldS
  rw [rg_word _ _ s1.lt63, rg_word _ _ s2.lt63]
  refine s1.mono s2 ?_
  rw [ab_fv, ab_fv]
  exact Rat.mul_le_mul_of_nonneg_right (unit_le.2 (rm_mono h)) (Rat.le_of_lt (pw_pos k))

/-- The greatest entry, scaled to its exponent, and back. -/
theorem top_scaled {x : Nat} (h0 : rg x ≠ 0) (hf : fin x) : rg (ldS x (-topS x)) = 4607182418800017408 + fracS x ∧ rg (ldS (rg (ldS x (-topS x))) (topS x)) = rg x := by
  have hl := fracS_lt h0
  have h1 : ldS x (-topS x) = zfl x 1023 := ldS_normal h0 (by decide) (by decide) (by omega)
  have hrg : rg (zfl x 1023) = 4607182418800017408 + fracS x := by
    unfold zfl
    rw [rg_word _ _ (by omega)]
  rw [h1, hrg]
  refine ⟨rfl, ?_⟩
  have hv := zfl_val h0 (E := 1023) (by decide)
  have hrr : rg (4607182418800017408 + fracS x) = 4607182418800017408 + fracS x := by unfold rg; omega
  have e : ab (fv (4607182418800017408 + fracS x)) * pw (topS x) = (rm (rg x) : Rat) * pw (-1074) := by
    rw [ab_fv, hrr, show 4607182418800017408 + fracS x = 1023 * 4503599627370496 + fracS x from by omega, hv, Rat.mul_assoc, ← pw_add, show ((1023 : Nat) : Int) - 1023 - topS x + topS x = 0 from by omega, pw_zero, Rat.mul_one, ab_fv]
  unfold ldS
  rw [e]
  have hr := (exact_rg hf).eq_rr (Rat.mul_nonneg Rat.natCast_nonneg (Rat.le_of_lt (pw_pos _)))
  rw [← hr, rg_word _ _ (rg_lt x)]

theorem most_at {xs : List Nat} : ∀ k, k ≤ xs.length → mostT xs k = 0 ∨ ∃ i, i < k ∧ rg (ge xs i) = mostT xs k := by
  intro k
  induction k with
  | zero => intro _; exact .inl rfl
  | succ k ih =>
    intro hk
    have e : mostT xs (k + 1) = max (mostT xs k) (rg (ge xs k)) := rfl
    rcases ih (by omega) with h | ⟨i, hi, h⟩
    · right; exact ⟨k, by omega, by omega⟩
    · rcases Nat.le_total (mostT xs k) (rg (ge xs k)) with h2 | h2
      · right; exact ⟨k, by omega, by omega⟩
      · right; exact ⟨i, by omega, by omega⟩

end Lev
