/- Plain: the size of a row of the inverse. -/
import Derived.Test.YtigacobphgeeaaaXa9
import Derived.Test.YtigacobphgeeaaaT9
set_option linter.unusedVariables false
namespace Lev
open Ieee
set_option exponentiation.threshold 3000 in
set_option maxRecDepth 10000 in
theorem sqrt_bd9 {s : Nat} (hs : fin s) (hg : sg s = false) (hB : ab (fv s) ≤ pw 100) : D.sqrt s = some (sqrtF s) ∧ fin (sqrtF s) ∧ sqrtF s < 18446744073709551616 ∧ sg (sqrtF s) = false := by
  have hI := INF_eq
  by_cases h0 : rg s = 0
  · have h1 := sqrt_zero h0
    have e : sqrtF s = D.word (sg s) 0 := by unfold sqrtF; rw [h1]; rfl
    rw [e, hg]
    exact ⟨by rw [h1, hg], fin_word (by omega), word_lt64 _ _ (by decide), sg_word _ _ (by decide)⟩
  · obtain ⟨r, h1, h2⟩ := sqrt_spec hs hg h0
    have e : sqrtF s = D.word false r := by unfold sqrtF; rw [h1]; rfl
    have hr : r < INF := by
      rcases Nat.lt_or_ge r INF with h | h
      · exact h
      · exfalso
        have hr : r = INF := Nat.le_antisymm h2.1 h
        subst hr
        have h3 := (h2.2.2 (by omega)).1
        have h4 : fv s ≤ pw 100 := by
          have h5 : fv s = ab (fv s) := by unfold ab; rw [if_neg (by have := fv_nonneg hg; grind)]
          rw [h5]; exact hB
        have h6 : pw 1023 ≤ (mid2 (INF - 1) : Rat) * pw (-1075) := by
          have a1 : ((rm INF : Nat) : Rat) ≤ (mid2 (INF - 1) : Rat) := by
            unfold mid2
            rw [show INF - 1 + 1 = INF from by omega]
            exact cast_le.2 (Nat.le_add_left _ _)
          have a2 := Rat.mul_le_mul_of_nonneg_right a1 (Rat.le_of_lt (pw_pos (-1075)))
          have a3 : (rm INF : Rat) * pw (-1075) = pw 1023 := by
            have := rm_inf
            rw [half_unit] at this
            have h8 := pw_double 1023
            rw [show (1023 : Int) + 1 = 1024 from rfl] at h8
            grind
          rw [a3] at a2; exact a2
        have h7 := sq_le (Rat.le_of_lt (pw_pos 1023)) h6
        have h8 : pw 1023 * pw 1023 = pw 2046 := by rw [← pw_add]; rfl
        have h9 : pw 100 < pw 2046 := pw_lt (by decide)
        grind
    rw [e]
    exact ⟨h1, fin_word hr, word_lt64 _ _ (by omega), sg_word _ _ (by omega)⟩

/-- The greatest power. -/
def kL (x : Nat → Nat) : Nat → Int
  | 0 => -1000
  | m + 1 => max (kL x m) (topB (x m))
def kS (x : Nat → Nat) (m : Nat) : Int := min (kL x m) 1000
def yS (x : Nat → Nat) (k : Int) (i : Nat) : Nat := ldS (x i) (-k)
def qS (x : Nat → Nat) (k : Int) (i : Nat) : Nat := fmul (yS x k i) (yS x k i)
def sizeS (x : Nat → Nat) (m : Nat) : Nat := ldS (sqrtF (sumT (qS x (kS x m)) m)) (kS x m)
theorem kL_ge (x : Nat → Nat) : ∀ m, -1000 ≤ kL x m ∧ ∀ i, i < m → topB (x i) ≤ kL x m
  | 0 => ⟨by show (-1000 : Int) ≤ -1000; omega, fun i h => absurd h (Nat.not_lt_zero _)⟩
  | m + 1 => by
    obtain ⟨h1, h2⟩ := kL_ge x m
    show -1000 ≤ max (kL x m) (topB (x m)) ∧ ∀ i, i < m + 1 → topB (x i) ≤ max (kL x m) (topB (x m))
    refine ⟨by omega, fun i hi => ?_⟩
    by_cases e : i = m
    · subst e; omega
    · have := h2 i (by omega); omega
theorem kL_le (x : Nat → Nat) : ∀ m, (∀ i, i < m → fin (x i)) → kL x m ≤ 1023
  | 0, _ => by show (-1000 : Int) ≤ 1023; omega
  | m + 1, h => by
    have h1 := kL_le x m (fun i hi => h i (by omega))
    have h2 : topB (x m) ≤ 1023 := by
      unfold topB; split
      · exact topS_hi (h m (by omega))
      · omega
    show max (kL x m) (topB (x m)) ≤ 1023
    omega
theorem yS_bd {x : Nat → Nat} {m i : Nat} (hi : i < m) (hx : ∀ i, i < m → fin (x i)) : ab (fv (x i)) * pw (-kS x m) ≤ pw 24 := by
  have hk := (kL_ge x m).2 i hi
  have hl := kL_le x m hx
  by_cases h0 : rg (x i) = 0
  · have : ab (fv (x i)) = 0 := by rw [ab_fv, h0]; decide +kernel
    rw [this, Rat.zero_mul]; exact Rat.le_of_lt (pw_pos _)
  · have h1 := val_lt h0
    have ht : topB (x i) = topS (x i) := by unfold topB; rw [if_pos (kindS_fin (hx i hi) h0)]
    rw [ht] at hk
    have h2 := topS_hi (hx i hi)
    have h3 : pw (topS (x i) + 1) * pw (-kS x m) ≤ pw 24 := by
      rw [← pw_add]
      refine pw_le ?_
      unfold kS; omega
    have h4 := Rat.mul_le_mul_of_nonneg_right (Rat.le_of_lt h1) (Rat.le_of_lt (pw_pos (-kS x m)))
    exact Rat.le_trans h4 h3
theorem sq_sgF {y : Nat} (hy : fin y) (h : fin (fmul y y)) : sg (fmul y y) = false := by
  obtain ⟨r, h1, h2⟩ := mul_spec hy hy
  have e : fmul y y = D.word (sg y ^^ sg y) r := by unfold fmul; rw [h1]; rfl
  have hr : r < INF := by
    rcases Nat.lt_or_ge r INF with h3 | h3
    · exact h3
    · exfalso
      have : r = INF := Nat.le_antisymm h2.1 h3
      subst this
      rw [e] at h
      unfold fin at h
      rw [rg_word _ _ (by decide)] at h
      omega
  rw [e, sg_word _ _ (by have := INF_eq; omega)]
  cases sg y <;> rfl
theorem sumT_sgF {t : Nat → Nat} {E : Int} (h1 : -1074 ≤ E) (h2 : E ≤ 971) : ∀ k : Nat, k ≤ 1000 → (∀ i, i < k → fin (t i) ∧ ab (fv (t i)) ≤ pw E ∧ sg (t i) = false) → sg (sumT t k) = false
  | 0, _, _ => by show sg 0 = false; decide
  | k + 1, hk, h => by
    have h3 := sumT_sgF h1 h2 k (by omega) (fun i hi => h i (by omega))
    have h4 := sumT_bd h1 h2 k (by omega) (fun i hi => ⟨(h i (by omega)).1, (h i (by omega)).2.1⟩)
    exact fadd_sg h4.1 (h k (by omega)).1 h3 (h k (by omega)).2.2
/-- No step of it is no number. -/
theorem size_facts {x : Nat → Nat} {m : Nat} (hm : m ≤ 6) (hx : ∀ i, i < m → fin (x i)) :
    (-1000 ≤ kS x m ∧ kS x m ≤ 1000) ∧ (∀ i, i < m → D.mul (x i) (makeF false 1 (-kS x m)) = some (yS x (kS x m) i) ∧ D.mul (yS x (kS x m) i) (yS x (kS x m) i) = some (qS x (kS x m) i)) ∧
    (∀ q, q < m → D.add (sumT (qS x (kS x m)) q) (qS x (kS x m) q) = some (sumT (qS x (kS x m)) (q + 1))) ∧ D.sqrt (sumT (qS x (kS x m)) m) = some (sqrtF (sumT (qS x (kS x m)) m)) ∧
    D.mul (sqrtF (sumT (qS x (kS x m)) m)) (makeF false 1 (kS x m)) = some (sizeS x m) ∧ sizeS x m < 18446744073709551616 ∧ fin (sqrtF (sumT (qS x (kS x m)) m)) ∧ (∀ i, i < m → fin (yS x (kS x m) i) ∧ fin (qS x (kS x m) i) ∧ ab (fv (qS x (kS x m) i)) ≤ pw 48 ∧ sg (qS x (kS x m) i) = false) ∧ fin (sumT (qS x (kS x m)) m) ∧ sg (sqrtF (sumT (qS x (kS x m)) m)) = false := by
  have hk1 : -1000 ≤ kS x m ∧ kS x m ≤ 1000 := by
    have := (kL_ge x m).1
    unfold kS; omega
  have hy : ∀ i, i < m → fin (yS x (kS x m) i) ∧ ab (fv (yS x (kS x m) i)) ≤ pw 24 := fun i hi => by
    have := ldS_bd (B := pw 24) (yS_bd hi hx) (rep_pw1 (by decide) (by decide))
    exact ⟨this.1, this.2.1⟩
  have hq : ∀ i, i < m → D.mul (yS x (kS x m) i) (yS x (kS x m) i) = some (qS x (kS x m) i) ∧ fin (qS x (kS x m) i) ∧ ab (fv (qS x (kS x m) i)) ≤ pw 48 := fun i hi => by
    obtain ⟨h1, h2⟩ := hy i hi
    have h3 : ab (fv (yS x (kS x m) i)) * ab (fv (yS x (kS x m) i)) ≤ pw 48 := by
      have h4 := Rat.mul_le_mul_of_nonneg_right h2 (ab_nonneg (fv (yS x (kS x m) i)))
      have h5 := Rat.mul_le_mul_of_nonneg_left h2 (Rat.le_of_lt (pw_pos 24))
      rw [show pw 48 = pw 24 * pw 24 from by rw [← pw_add]; rfl]
      exact Rat.le_trans h4 h5
    have := mul_bd h1 h1 h3 (rep_pw1 (by decide) (by decide))
    exact ⟨this.1, this.2.1, this.2.2.1⟩
  have hs : ∀ i, i < m → fin (qS x (kS x m) i) ∧ ab (fv (qS x (kS x m) i)) ≤ pw 48 ∧ sg (qS x (kS x m) i) = false := fun i hi => ⟨(hq i hi).2.1, (hq i hi).2.2, sq_sgF (hy i hi).1 (hq i hi).2.1⟩
  have hsum := sumT_bd (t := qS x (kS x m)) (E := 48) (by decide) (by decide) m (by omega) (fun i hi => ⟨(hs i hi).1, (hs i hi).2.1⟩)
  have hsg := sumT_sgF (t := qS x (kS x m)) (E := 48) (by decide) (by decide) m (by omega) hs
  have hle : ab (fv (sumT (qS x (kS x m)) m)) ≤ pw 100 := by
    have h6 : (m : Rat) * pw 48 ≤ pw 100 := by
      have h7 : (m : Rat) ≤ pw 3 := by rw [show (3 : Int) = ((3 : Nat) : Int) from rfl, pw_nat]; exact cast_le.2 (by omega)
      have h8 := Rat.mul_le_mul_of_nonneg_right h7 (Rat.le_of_lt (pw_pos 48))
      rw [← pw_add] at h8
      exact Rat.le_trans h8 (pw_le (by decide))
    exact Rat.le_trans hsum.2.1 h6
  have hsq := sqrt_bd9 hsum.1 hsg hle
  have hmul := mul_pow2 (x := sqrtF (sumT (qS x (kS x m)) m)) (k := kS x m) hsq.2.1 (by omega) (by omega)
  refine ⟨hk1, fun i hi => ⟨mul_pow2 (hx i hi) (by omega) (by omega), (hq i hi).1⟩, fun q hq2 => sumT_add (E := 48) (by decide) (by decide) (by omega) (fun i hi => ⟨(hs i (by omega)).1, (hs i (by omega)).2.1⟩), hsq.1, hmul, ?_, hsq.2.1, fun i hi => ⟨(hy i hi).1, hs i hi⟩, hsum.1, hsq.2.2.2⟩
  have hb : Go.floatBits .mul .f64 (sqrtF (sumT (qS x (kS x m)) m)) (makeF false 1 (kS x m)) = some (sizeS x m) := hmul
  have := Go.floatBits_wf hb
  simpa [Go.Lit.wf] using this
end Lev
