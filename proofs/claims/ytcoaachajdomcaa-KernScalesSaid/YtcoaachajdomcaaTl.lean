/- The norm of a list: plain. -/
import Derived.Test.YtcoaachajdomcaaTk
import Derived.Test.YtcoaachajdomcaaBf
namespace Lev
open Ieee Go.Proofs.Ytcoaachajdomcaa

theorem topS_mono {a b : Nat} (h0 : rg a ≠ 0) (h : rg a ≤ rg b) : topS a ≤ topS b := by
  have hb : rg b ≠ 0 := by omega
  have h1 := val_ge h0
  have h2 := val_lt hb
  rw [ab_fv] at h1 h2
  have h3 := unit_le.2 (rm_mono h)
  rcases Int.lt_or_le (topS b) (topS a) with h4 | h4
  · exfalso
    have h5 : pw (topS b + 1) ≤ pw (topS a) := pw_le (by omega)
    grind
  · exact h4

/-- A float times a power of two. -/
theorem mul_pow2 {x : Nat} {k : Int} (hf : fin x) (h1 : -1022 ≤ k) (h2 : k ≤ 1023) : D.mul x (makeF false 1 k) = some (ldS x k) := by
  have hE : ((k + 1023).toNat : Int) - 1023 = k := by omega
  have hp := (makeF_pow (k + 1023).toNat (by omega) (by omega)).2
  rw [hE] at hp
  rw [hp]
  have hpf := fin_pow (k + 1023).toNat (by omega)
  have hpv := fv_pow (k + 1023).toNat (by omega) (by omega)
  rw [hE] at hpv
  have hps : sg ((k + 1023).toNat * 4503599627370496) = false := by
    unfold sg; rw [Nat.div_eq_of_lt (by omega)]; rfl
  obtain ⟨r, m1, m2⟩ := mul_spec hf hpf
  rw [m1, hps, Bool.xor_false]
  rw [ab_mul, hpv, ab_pw] at m2
  rw [m2.eq_rr (mul_pw_nonneg _ _)]
  rfl

def mostT (xs : List Nat) : Nat → Nat
  | 0 => 0
  | k + 1 => max (mostT xs k) (rg (ge xs k))
def topN (xs : List Nat) : Nat → Int
  | 0 => -2000
  | k + 1 => max (topN xs k) (topB (ge xs k))
theorem mostT_le {xs : List Nat} {k i : Nat} (h : i < k) : rg (ge xs i) ≤ mostT xs k := by
  induction k with
  | zero => omega
  | succ k ih =>
    unfold mostT
    by_cases hi : i < k
    · have := ih hi; omega
    · obtain rfl : i = k := by omega
      omega
theorem mostT_in {xs : List Nat} (h : allIn xs = true) : ∀ k, k ≤ xs.length → mostT xs k = 0 ∨ (2805742567851819008 ≤ mostT xs k ∧ mostT xs k ≤ 6408622269748215808) := by
  intro k
  induction k with
  | zero => intro _; exact .inl rfl
  | succ k ih =>
    intro hk
    have h1 := allIn_get h (k := k) (by omega)
    unfold inS at h1
    rw [decide_eq_true_eq] at h1
    unfold mostT
    have := ih (by omega)
    omega
theorem rg_small {m : Nat} (h : m ≤ 6408622269748215808) : rg m = m := by unfold rg; omega
theorem topB_of {x : Nat} (h : inS x = true) : topB x = if rg x = 0 then -2000 else topS x := by
  obtain ⟨hf, _⟩ := inS_bd h
  unfold topB
  by_cases h0 : rg x = 0
  · rw [kindS_zero h0, if_neg (by decide), if_pos h0]
  · rw [kindS_fin hf h0, if_pos rfl, if_neg h0]
theorem topS_lo400 {m : Nat} (h : 2805742567851819008 ≤ rg m) (h2 : rg m ≤ 6408622269748215808) : -400 ≤ topS m ∧ topS m ≤ 400 := by
  have e1 : topS 2805742567851819008 = -400 := by decide +kernel
  have e2 : topS 6408622269748215808 = 400 := by decide +kernel
  have r1 : rg 2805742567851819008 = 2805742567851819008 := by decide
  have r2 : rg 6408622269748215808 = 6408622269748215808 := by decide
  exact ⟨by rw [← e1]; exact topS_mono (by rw [r1]; decide) (by rw [r1]; exact h), by rw [← e2]; exact topS_mono (by omega) (by rw [r2]; exact h2)⟩
theorem topN_eq {xs : List Nat} (h : allIn xs = true) : ∀ k, k ≤ xs.length → topN xs k = if mostT xs k = 0 then -2000 else topS (mostT xs k) := by
  intro k
  induction k with
  | zero => intro _; rfl
  | succ k ih =>
    intro hk
    have h1 := allIn_get h (k := k) (by omega)
    have h2 := topB_of h1
    have h3 := mostT_in h k (by omega)
    unfold inS at h1
    rw [decide_eq_true_eq] at h1
    unfold topN mostT
    rw [ih (by omega), h2]
    have hx := topS_rg (ge xs k)
    by_cases hm : mostT xs k = 0
    · rw [if_pos hm, hm]
      by_cases hr : rg (ge xs k) = 0
      · rw [if_pos hr, hr]; rfl
      · rw [if_neg hr, Nat.zero_max, if_neg hr, hx]
        have := topS_lo400 (m := ge xs k) (by omega) (by omega)
        omega
    · rw [if_neg hm]
      have hmr : rg (mostT xs k) = mostT xs k := rg_small (by omega)
      by_cases hr : rg (ge xs k) = 0
      · rw [if_pos hr, hr, Nat.max_zero, if_neg hm]
        have := topS_lo400 (m := mostT xs k) (by omega) (by omega)
        omega
      · rw [if_neg hr]
        rcases Nat.le_total (mostT xs k) (rg (ge xs k)) with hle | hle
        · rw [Nat.max_eq_right hle, if_neg hr, hx]
          have := topS_mono (a := mostT xs k) (b := ge xs k) (by omega) (by omega)
          omega
        · rw [Nat.max_eq_left hle, if_neg hm]
          have := topS_mono (a := ge xs k) (b := mostT xs k) hr (by omega)
          omega

/-- Entry i, scaled; its square. -/
def scT (xs : List Nat) (k : Int) (i : Nat) : Nat := ldS (ge xs i) (-k)
def sqT (xs : List Nat) (k : Int) (i : Nat) : Nat := fmul (scT xs k i) (scT xs k i)
def sqrtF (s : Nat) : Nat := (D.sqrt s).getD 0
def normK (xs : List Nat) : Int := topS (mostT xs xs.length)
def normF (xs : List Nat) : Nat := if allIn xs = true ∧ mostT xs xs.length ≠ 0 then ldS (sqrtF (sumT (sqT xs (normK xs)) xs.length)) (normK xs) else 0

theorem ldS_bd {b : Nat} {k : Int} {B : Rat} (h : ab (fv b) * pw k ≤ B) (hB : rep B) : fin (ldS b k) ∧ ab (fv (ldS b k)) ≤ B ∧ sg (ldS b k) = sg b := by
  have hI := INF_eq
  have h1 := rr_spec (mul_pw_nonneg b k)
  obtain ⟨k1, k2⟩ := rnd_le h1 h hB
  unfold ldS
  exact ⟨fin_word k1, by rw [ab_word k1]; exact k2, sg_word _ _ (by omega)⟩
theorem rep_pw1 {E : Int} (h1 : -1074 ≤ E) (h2 : E ≤ 971) : rep (pw E) := by
  have := rep_pw (M := 1) (E := E) (by decide) h1 h2
  rwa [show ((1 : Nat) : Rat) = 1 from rfl, Rat.one_mul] at this

theorem norm_terms {xs : List Nat} (h : allIn xs = true) (h0 : mostT xs xs.length ≠ 0) {i : Nat} (hi : i < xs.length) :
    fin (ge xs i) ∧ fin (scT xs (normK xs) i) ∧ D.mul (scT xs (normK xs) i) (scT xs (normK xs) i) = some (sqT xs (normK xs) i) ∧ fin (sqT xs (normK xs) i) ∧ ab (fv (sqT xs (normK xs) i)) ≤ pw 2 ∧ sg (sqT xs (normK xs) i) = false ∧ sqT xs (normK xs) i < 18446744073709551616 := by
  obtain ⟨f1, _⟩ := inS_bd (allIn_get h hi)
  have hm := mostT_in h xs.length (Nat.le_refl _)
  have hmr : rg (mostT xs xs.length) = mostT xs xs.length := rg_small (by omega)
  have hle := mostT_le (xs := xs) hi
  have hv := val_lt (b := mostT xs xs.length) (by omega)
  have hy : ab (fv (ge xs i)) * pw (-normK xs) ≤ pw 1 := by
    have a1 : ab (fv (ge xs i)) ≤ ab (fv (mostT xs xs.length)) := by
      rw [ab_fv, ab_fv, hmr]; exact unit_le.2 (rm_mono hle)
    have a2 : ab (fv (ge xs i)) ≤ pw (normK xs + 1) := Rat.le_of_lt (by unfold normK; grind)
    have a3 := Rat.mul_le_mul_of_nonneg_right a2 (Rat.le_of_lt (pw_pos (-normK xs)))
    rw [← pw_add, show normK xs + 1 + -normK xs = 1 from by omega] at a3
    exact a3
  obtain ⟨g1, g2, g3⟩ := ldS_bd hy (rep_pw1 (by decide) (by decide))
  have hmul := mul_bd (a := scT xs (normK xs) i) (b := scT xs (normK xs) i) (B := pw 2) g1 g1 (by
    have e : pw 2 = pw 1 * pw 1 := by rw [← pw_add]; rfl
    rw [e]
    have b1 := Rat.mul_le_mul_of_nonneg_left g2 (ab_nonneg (fv (scT xs (normK xs) i)))
    have b2 := Rat.mul_le_mul_of_nonneg_right g2 (Rat.le_of_lt (pw_pos 1))
    exact Rat.le_trans b1 b2) (rep_pw1 (by decide) (by decide))
  refine ⟨f1, g1, hmul.1, hmul.2.1, hmul.2.2.1, ?_, hmul.2.2.2⟩
  have hI := INF_eq
  obtain ⟨r, m1, m2⟩ := mul_spec g1 g1
  unfold sqT fmul
  show sg ((D.mul (ldS (ge xs i) (-normK xs)) (ldS (ge xs i) (-normK xs))).getD 0) = false
  rw [m1]
  show sg (D.word _ r) = false
  rw [sg_word _ _ m2.lt63, Bool.xor_self]

theorem fv_nonneg {x : Nat} (h : sg x = false) : 0 ≤ fv x := by
  unfold fv; rw [h]
  exact Rat.mul_nonneg Rat.natCast_nonneg (Rat.le_of_lt (pw_pos _))
theorem fadd_sg {a b : Nat} (ha : fin a) (hb : fin b) (h1 : sg a = false) (h2 : sg b = false) : sg (fadd a b) = false := by
  obtain ⟨r, m1, m2⟩ := add_spec ha hb
  unfold fadd
  rw [m1]
  show sg (D.word _ r) = false
  rw [sg_word _ _ m2.lt63]
  unfold sumSg
  rw [h1, h2]
  split
  · rfl
  · rw [decide_eq_false_iff_not]
    have := fv_nonneg h1
    have := fv_nonneg h2
    grind
theorem sumT_sg {t : Nat → Nat} {E : Int} (h1 : -1074 ≤ E) (h2 : E ≤ 971) : ∀ k : Nat, k ≤ 1000 → (∀ i, i < k → fin (t i) ∧ ab (fv (t i)) ≤ pw E ∧ sg (t i) = false) → sg (sumT t k) = false := by
  intro k
  induction k with
  | zero => intro _ _; show sg 0 = false; decide
  | succ k ih =>
    intro hk ht
    have a1 := ih (by omega) (fun i hi => ht i (by omega))
    have a2 := (sumT_bd h1 h2 k (by omega) (fun i hi => ⟨(ht i (by omega)).1, (ht i (by omega)).2.1⟩)).1
    obtain ⟨b1, b2, b3⟩ := ht k (by omega)
    exact fadd_sg a2 b1 a1 b3

theorem sqrt_bd {s : Nat} (hs : fin s) (hg : sg s = false) (hB : ab (fv s) ≤ pw 20) : D.sqrt s = some (sqrtF s) ∧ fin (sqrtF s) ∧ sqrtF s < 18446744073709551616 ∧ sg (sqrtF s) = false := by
  have hI := INF_eq
  by_cases h0 : rg s = 0
  · have h1 := sqrt_zero h0
    have e : sqrtF s = D.word (sg s) 0 := by unfold sqrtF; rw [h1]; rfl
    rw [e, hg]
    exact ⟨by rw [h1, hg], fin_word (by omega), word_lt64 _ _ (by decide), sg_word _ _ (by decide)⟩
  · obtain ⟨r, h1, h2⟩ := sqrt_spec hs hg h0
    have e : sqrtF s = D.word false r := by unfold sqrtF; rw [h1]; rfl
    have hr : r < INF := by
      rcases Nat.lt_or_ge r INF with h | h
      · exact h
      · exfalso
        have hr : r = INF := Nat.le_antisymm h2.1 h
        subst hr
        have h3 := (h2.2.2 (by omega)).1
        have h4 : fv s ≤ pw 20 := by
          have h5 : fv s = ab (fv s) := by unfold ab; rw [if_neg (by have := fv_nonneg hg; grind)]
          rw [h5]; exact hB
        have h6 : pw 1023 ≤ (mid2 (INF - 1) : Rat) * pw (-1075) := by
          have a1 : ((rm INF : Nat) : Rat) ≤ (mid2 (INF - 1) : Rat) := by
            unfold mid2
            rw [show INF - 1 + 1 = INF from by omega]
            exact cast_le.2 (Nat.le_add_left _ _)
          have a2 := Rat.mul_le_mul_of_nonneg_right a1 (Rat.le_of_lt (pw_pos (-1075)))
          have a3 : (rm INF : Rat) * pw (-1075) = pw 1023 := by
            have := rm_inf
            rw [half_unit] at this
            have h8 := pw_double 1023
            rw [show (1023 : Int) + 1 = 1024 from rfl] at h8
            grind
          rw [a3] at a2; exact a2
        have h7 := sq_le (Rat.le_of_lt (pw_pos 1023)) h6
        have h8 : pw 1023 * pw 1023 = pw 2046 := by rw [← pw_add]; rfl
        have h9 : pw 20 < pw 2046 := pw_lt (by decide)
        grind
    rw [e]
    exact ⟨h1, fin_word hr, word_lt64 _ _ (by omega), sg_word _ _ (by omega)⟩

/-- The sum of the squares, scaled. -/
theorem norm_sum {xs : List Nat} (h : allIn xs = true) (h0 : mostT xs xs.length ≠ 0) (hl : xs.length ≤ 1000) :
    fin (sumT (sqT xs (normK xs)) xs.length) ∧ sg (sumT (sqT xs (normK xs)) xs.length) = false ∧ ab (fv (sumT (sqT xs (normK xs)) xs.length)) ≤ pw 20 := by
  have ht : ∀ i, i < xs.length → fin (sqT xs (normK xs) i) ∧ ab (fv (sqT xs (normK xs) i)) ≤ pw 2 := fun i hi => ⟨(norm_terms h h0 hi).2.2.2.1, (norm_terms h h0 hi).2.2.2.2.1⟩
  obtain ⟨a1, a2, _⟩ := sumT_bd (E := 2) (by decide) (by decide) xs.length hl ht
  refine ⟨a1, sumT_sg (E := 2) (by decide) (by decide) xs.length hl (fun i hi => ⟨(ht i hi).1, (ht i hi).2, (norm_terms h h0 hi).2.2.2.2.2.1⟩), Rat.le_trans a2 ?_⟩
  have h1 : ((xs.length : Nat) : Rat) ≤ ((2 ^ 18 : Nat) : Rat) := cast_le.2 (by omega)
  rw [← pw_nat] at h1
  have h2 := Rat.mul_le_mul_of_nonneg_right h1 (Rat.le_of_lt (pw_pos 2))
  rw [← pw_add] at h2
  exact h2

end Lev
