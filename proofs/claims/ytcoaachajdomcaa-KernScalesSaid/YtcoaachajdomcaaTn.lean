/- KernMost in plain Lean, its law. -/
import Derived.Test.YtcoaachajdomcaaTm
namespace Lev

theorem word_pos {s : Nat} (h : sg s = false) (hl : s < 18446744073709551616) : rg s = s := by
  have := word_sg_rg s hl
  rw [h, word_false] at this
  exact this
theorem flt_pos {s x : Nat} (hs : sg s = false) (hl : s < 18446744073709551616) (h : rg x ≤ rg s) : flt s (rg x) = false := by
  unfold flt
  rw [decide_eq_false_iff_not]
  rintro ⟨_, _, h3⟩
  rw [ord_rg] at h3
  have h4 := ord_rg s
  rw [word_pos hs hl] at h4 h
  rw [h4] at h3
  omega
theorem feq_refl {a : Nat} (h : fin a) : feq a a = true := by
  unfold feq fin at *
  rw [decide_eq_true_eq]
  exact ⟨by omega, by omega, rfl⟩

theorem sum_most {xs : List Nat} (h : allIn xs = true) (hl : xs.length ≤ 40) : (∀ i, i < xs.length → rg (ge xs i) ≤ rg (sumF xs)) ∧ sg (sumF xs) = false ∧ fin (sumF xs) ∧ sumF xs < 18446744073709551616 ∧ (xs.length = 1 → sumF xs = rg (ge xs 0)) := by
  have ht : ∀ i, i < xs.length → fin (absT xs i) ∧ ab (fv (absT xs i)) ≤ pw 400 ∧ sg (absT xs i) = false := fun i hi => ⟨(absT_bd h hi).1, (absT_bd h hi).2, sg_rg _⟩
  have e : sumF xs = sumT (absT xs) xs.length := by unfold sumF; rw [if_pos h]
  have b := sumT_bd (E := 400) (by decide) (by decide) xs.length (by omega) (fun i hi => absT_bd h hi)
  rw [e]
  refine ⟨fun i hi => ?_, sumT_sg (E := 400) (by decide) (by decide) xs.length (by omega) ht, b.1, b.2.2, fun h1 => ?_⟩
  · have := sumT_ge (E := 400) (by decide) (by decide) xs.length (by omega) ht i hi
    have e2 : rg (absT xs i) = rg (ge xs i) := rg_rg _
    rw [e2] at this; exact this
  · rw [h1]
    show fadd 0 (rg (ge xs 0)) = rg (ge xs 0)
    exact add_zero_l (ht 0 (by omega)).1 (sg_rg _) (Nat.lt_trans (rg_lt _) (by decide))

theorem norm_most {xs : List Nat} (h : allIn xs = true) (hl : xs.length ≤ 40) (h0 : mostT xs xs.length ≠ 0) :
    mostT xs xs.length ≤ rg (normF xs) ∧ sg (normF xs) = false ∧ normF xs < 18446744073709551616 ∧ (xs.length = 1 → normF xs = rg (ge xs 0)) := by
  obtain ⟨i, hi, hm⟩ := (most_at (xs := xs) xs.length (Nat.le_refl _)).resolve_left h0
  have hK : normK xs = topS (ge xs i) := by unfold normK; rw [← hm, topS_rg]
  have e : normF xs = ldS (sqrtF (sumT (sqT xs (normK xs)) xs.length)) (normK xs) := by unfold normF; rw [if_pos ⟨h, h0⟩]
  have hns := norm_sum h h0 (by omega)
  have hsq := sqrt_bd hns.1 hns.2.1 hns.2.2
  have hx0 : rg (ge xs i) ≠ 0 := by rw [hm]; exact h0
  have hnt := fun j (hj : j < xs.length) => norm_terms h h0 hj
  obtain ⟨t1, t2⟩ := top_scaled hx0 (hnt i hi).1
  have hfr := fracS_lt hx0
  have hy : scT xs (normK xs) i = ldS (ge xs i) (-topS (ge xs i)) := by unfold scT; rw [hK]
  have hroot := sqrt_sq (y := scT xs (normK xs) i) (by rw [hy, t1]; omega) (by rw [hy, t1]; omega)
  have hge := sumT_ge (t := sqT xs (normK xs)) (E := 2) (by decide) (by decide) xs.length (by omega) (fun j hj => ⟨(hnt j hj).2.2.2.1, (hnt j hj).2.2.2.2.1, (hnt j hj).2.2.2.2.2.1⟩) i hi
  have hmono := sqrtF_mono (hnt i hi).2.2.2.1 hns.1 (hnt i hi).2.2.2.2.2.1 hns.2.1 hge
  have e2 : sqrtF (sqT xs (normK xs) i) = rg (scT xs (normK xs) i) := hroot
  rw [e2] at hmono
  have hld := ldS_mono (k := normK xs) hmono
  rw [hy] at hld
  rw [hK] at hld
  rw [t2, hm] at hld
  have hs : sg (ldS (sqrtF (sumT (sqT xs (normK xs)) xs.length)) (normK xs)) = false := by
    have h2 := (rr_spec (mul_pw_nonneg (sqrtF (sumT (sqT xs (normK xs)) xs.length)) (normK xs))).lt63
    unfold ldS
    rw [sg_word _ _ h2]
    exact hsq.2.2.2
  rw [e]
  refine ⟨by rw [hK]; exact hld, hs, ldS_lt _ _, fun h1 => ?_⟩
  have hi0 : i = 0 := by omega
  subst hi0
  have hone : sumT (sqT xs (normK xs)) xs.length = sqT xs (normK xs) 0 := by
    rw [h1]
    show fadd 0 (sqT xs (normK xs) 0) = sqT xs (normK xs) 0
    exact add_zero_l (hnt 0 hi).2.2.2.1 (hnt 0 hi).2.2.2.2.2.1 (hnt 0 hi).2.2.2.2.2.2
  have hw := word_pos hs (ldS_lt _ _)
  rw [← hw, hone, e2, hy, hK, t2]

/-- KernMost's law. -/
theorem most_law {xs : List Nat} (h : allIn xs = true) (hl : xs.length ≤ 40) :
    (∀ i, i < xs.length → flt (sumF xs) (rg (ge xs i)) = false ∧ flt (normF xs) (rg (ge xs i)) = false) ∧
    (xs.length = 1 → feq (rg (ge xs 0)) (sumF xs) = true ∧ feq (sumF xs) (normF xs) = true) ∧
    feq (sumF xs) 0 = decide (mostT xs xs.length = 0) ∧ feq (normF xs) 0 = decide (mostT xs xs.length = 0) := by
  obtain ⟨s1, s2, s3, s4, s5⟩ := sum_most h hl
  by_cases h0 : mostT xs xs.length = 0
  · have hz : ∀ i, i < xs.length → rg (ge xs i) = 0 := fun i hi => by have := mostT_le (xs := xs) hi; omega
    have e : normF xs = 0 := by unfold normF; rw [if_neg (by simp [h0])]
    have hsum : sumF xs = 0 := by
      have e2 : sumF xs = sumT (absT xs) xs.length := by unfold sumF; rw [if_pos h]
      rw [e2]
      have : ∀ k, k ≤ xs.length → sumT (absT xs) k = 0 := by
        intro k
        induction k with
        | zero => intro _; rfl
        | succ k ih =>
          intro hk
          show fadd (sumT (absT xs) k) (rg (ge xs k)) = 0
          rw [ih (by omega), hz k (by omega)]
          decide +kernel
      exact this _ (Nat.le_refl _)
    rw [e, hsum, decide_eq_true h0]
    refine ⟨fun i hi => ?_, fun h1 => ?_, by decide, by decide⟩
    · rw [hz i hi]; decide
    · rw [hz 0 (by omega)]; decide
  · obtain ⟨n1, n2, n3, n4⟩ := norm_most h hl h0
    have hs0 : rg (sumF xs) ≠ 0 := by
      obtain ⟨i, hi, hm⟩ := (most_at (xs := xs) xs.length (Nat.le_refl _)).resolve_left h0
      have := s1 i hi
      omega
    refine ⟨fun i hi => ⟨flt_pos s2 s4 (s1 i hi), flt_pos n2 n3 (Nat.le_trans (mostT_le hi) n1)⟩, fun h1 => ?_, ?_, ?_⟩
    · rw [n4 h1, s5 h1]
      have hf : fin (rg (ge xs 0)) := fin_rg' (inS_bd (allIn_get h (k := 0) (by omega))).1
      exact ⟨feq_refl hf, feq_refl hf⟩
    · rw [feq_zero, decide_eq_false h0, decide_eq_false hs0]
    · rw [feq_zero, decide_eq_false h0, decide_eq_false (by omega)]

end Lev
