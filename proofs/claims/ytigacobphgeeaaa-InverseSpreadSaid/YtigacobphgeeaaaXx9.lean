/- Plain: the law InverseNear. -/
import Derived.Test.YtigacobphgeeaaaXv9
set_option linter.unusedVariables false
namespace Lev
open Ieee

theorem sub_alt {a b : Nat} (h : ¬ (fin a ∧ fin b)) : D.sub a b = none ∨ ∃ s, D.sub a b = some (D.write (.infinity s)) := by
  have hI := INF_eq
  by_cases ha : INF < rg a
  · exact .inl (sub_nan_l ha b)
  by_cases hb : INF < rg b
  · exact .inl (sub_nan_r hb a)
  by_cases ha2 : rg a = INF
  · by_cases hb2 : rg b = INF
    · unfold Format.sub
      rw [read_inf ha2, read_inf hb2]
      by_cases hs : sg a = !sg b
      · right; exact ⟨sg a, by show ((if sg a = !sg b then some (Datum.infinity (sg a)) else none).map D.write) = _; rw [if_pos hs]; rfl⟩
      · left; show ((if sg a = !sg b then some (Datum.infinity (sg a)) else none).map D.write) = _; rw [if_neg hs]; rfl
    · obtain ⟨m, i, h1, _⟩ := read_fin (b := b) (by unfold fin; omega)
      right
      refine ⟨sg a, ?_⟩
      unfold Format.sub
      rw [read_inf ha2, h1]; rfl
  · have fa : fin a := by unfold fin; omega
    have hb2 : rg b = INF := by
      by_cases h3 : rg b = INF
      · exact h3
      · exact absurd ⟨fa, by unfold fin; omega⟩ h
    obtain ⟨m, i, h1, _⟩ := read_fin fa
    right
    refine ⟨!sg b, ?_⟩
    unfold Format.sub
    rw [read_inf hb2, h1]; rfl
theorem sub_fin {a b : Nat} (h : fin (arS .sub a b)) : fin a ∧ fin b := by
  by_cases hc : fin a ∧ fin b
  · exact hc
  · exact absurd h (arS_alt (op := .sub) (sub_alt hc))
theorem div_alt {a b : Nat} (hb : fin b) (h : ¬ fin a) : D.div a b = none ∨ ∃ s, D.div a b = some (D.write (.infinity s)) := by
  have hI := INF_eq
  by_cases ha : INF < rg a
  · exact .inl (div_nan_l ha b)
  · have ha2 : rg a = INF := by unfold fin at h; omega
    obtain ⟨m, i, h1, _⟩ := read_fin hb
    right
    refine ⟨sg a ^^ sg b, ?_⟩
    unfold Format.div
    rw [read_inf ha2, h1]; rfl
theorem div_fin {a b : Nat} (hb : fin b) (h : fin (arS .quo a b)) : fin a := by
  by_cases hc : fin a
  · exact hc
  · exact absurd h (arS_alt (op := .quo) (div_alt hb hc))
theorem arS_fsub {a b : Nat} (ha : fin a) (hb : fin b) : arS .sub a b = fsub a b := by
  obtain ⟨r, m1, m2⟩ := sub_spec ha hb
  unfold arS fsub
  rw [show Go.floatBits .sub .f64 a b = some _ from m1, m1]
  exact cn_num (by rw [rg_word _ _ m2.lt63]; have := m2.le; omega)
/-- What is taken away, as what is added. -/
def nW (b : Nat) : Nat := D.word (!sg b) (rg b)
theorem nW_facts {b : Nat} (h : fin b) : fin (nW b) ∧ fv (nW b) = - fv b ∧ sg (nW b) = !sg b := by
  have h1 := rg_lt b
  have h2 : sg (nW b) = !sg b := sg_word _ _ h1
  have h3 : rg (nW b) = rg b := rg_word _ _ h1
  refine ⟨by unfold fin at *; rw [h3]; exact h, ?_, h2⟩
  unfold fv
  rw [h2, h3, sv_not]
theorem fsub_fadd {a b : Nat} (ha : fin a) (hb : fin b) : fsub a b = fadd a (nW b) := by
  obtain ⟨n1, n2, n3⟩ := nW_facts hb
  obtain ⟨r, h1, h2⟩ := sub_spec ha hb
  obtain ⟨q, h3, h4⟩ := add_spec ha n1
  have e : fv a + fv (nW b) = fv a - fv b := by rw [n2]; grind
  rw [e] at h3 h4
  rw [n3] at h3
  have := h2.unique h4
  subst this
  unfold fsub fadd
  rw [h1, h3]
/-- What is left, as a sum. -/
def ltT (g : Nat → Nat → Nat) (i : Nat) (col : Nat → Nat) (k : Nat) : Nat := nW (fmul (g i (i + 1 + k)) (col (i + 1 + k)))
theorem left_sum {g : Nat → Nat → Nat} {i : Nat} {col : Nat → Nat} : ∀ m, fin (leftL g i col m) →
    leftL g i col m = sumT (ltT g i col) m ∧ ∀ k, k < m → fin (sumT (ltT g i col) (k + 1)) ∧ fin (g i (i + 1 + k)) ∧ fin (col (i + 1 + k)) ∧ fin (fmul (g i (i + 1 + k)) (col (i + 1 + k)))
  | 0, _ => ⟨rfl, fun k hk => absurd hk (Nat.not_lt_zero _)⟩
  | m + 1, h => by
    have h0 : fin (arS .sub (leftL g i col m) (arS .mul (g i (i + 1 + m)) (col (i + 1 + m)))) := h
    obtain ⟨h1, h2⟩ := sub_fin h0
    obtain ⟨h3, h4⟩ := mul_fin h2
    obtain ⟨e, hk⟩ := left_sum m h1
    have e2 : leftL g i col (m + 1) = sumT (ltT g i col) (m + 1) := by
      show arS .sub (leftL g i col m) (arS .mul (g i (i + 1 + m)) (col (i + 1 + m))) = fadd (sumT (ltT g i col) m) (ltT g i col m)
      rw [arS_fmul h3 h4] at h2 ⊢
      rw [arS_fsub h1 h2, fsub_fadd h1 h2, e]
      rfl
    refine ⟨e2, fun k hkm => ?_⟩
    by_cases hq : k = m
    · subst hq
      rw [← e2]
      refine ⟨h, h3, h4, ?_⟩
      rw [← arS_fmul h3 h4]; exact h2
    · exact hk k (by omega)
theorem sumR_shift (t : Nat → Rat) : ∀ k : Nat, sumR t (k + 1) = t 0 + sumR (fun m => t (m + 1)) k
  | 0 => by show 0 + t 0 = t 0 + 0; grind
  | k + 1 => by
    show sumR t (k + 1) + t (k + 1) = t 0 + (sumR (fun m => t (m + 1)) k + t (k + 1))
    rw [sumR_shift t k]; grind
theorem sumR_neg (t : Nat → Rat) : ∀ k : Nat, sumR (fun m => - t m) k = - sumR t k
  | 0 => by show (0 : Rat) = - 0; grind
  | k + 1 => by
    show sumR (fun m => - t m) k + - t k = - (sumR t k + t k)
    rw [sumR_neg t k]; grind
/-- Row i of the square part, times column j of the inverse: its products. -/
def invP (g : Nat → Nat → Nat) (i j m : Nat) : Rat := fv (g i (i + m)) * fv (wS g (i + m) j)
/-- What is left of 1 or 0 behind m of them. -/
def invD (g : Nat → Nat → Nat) (i j : Nat) (m : Nat) : Rat := (if i = j then 1 else 0) - sumR (invP g i j) m
def invZ (g : Nat → Nat → Nat) (i j m : Nat) : Rat := sumR (fun k => ab (invP g i j k)) m
theorem near_off {S err η a d1 d2 : Rat} {u v n L : Rat} (h1 : d1 ≤ u * (S + err) + η * a) (h2 : d2 ≤ err) (he : err ≤ (L * v + u) * S + 2 * (L + 1) * η)
    (hS : 0 ≤ S) (hη : 0 ≤ η) (ha : 0 ≤ a) (hu : u = uu) (hv : v = vv) (hL0 : 0 ≤ L) (hL : L + 2 ≤ n) (hn : n ≤ 6) : d1 + d2 ≤ S * (n + 2) * u + (n + a) * (32 * η) := by
  have a1 : u * err ≤ u * ((L * v + u) * S + 2 * (L + 1) * η) := Rat.mul_le_mul_of_nonneg_left he (by rw [hu]; unfold uu; grind)
  have a2 : (u + u * (L * v + u) + (L * v + u)) * S ≤ (n + 2) * u * S := by
    refine Rat.mul_le_mul_of_nonneg_right ?_ hS
    have b1 : L * v ≤ (n - 2) * v := Rat.mul_le_mul_of_nonneg_right (by grind) (by rw [hv]; unfold vv; grind)
    have b2 : (n - 2) * v ≤ (n - 2) * u + 4 * (v - u) := by
      have : (n - 2) * (v - u) ≤ 4 * (v - u) := Rat.mul_le_mul_of_nonneg_right (by grind) (by rw [hv, hu]; unfold vv uu; grind)
      grind
    have b3 : u * (L * v + u) ≤ u * 1 := Rat.mul_le_mul_of_nonneg_left (by
      have : (n - 2) * v ≤ 4 * v := Rat.mul_le_mul_of_nonneg_right (by grind) (by rw [hv]; unfold vv; grind)
      have c1 : 4 * v + u ≤ 1 := by rw [hv, hu]; decide +kernel
      grind) (by rw [hu]; unfold uu; grind)
    have b4 : 4 * (v - u) ≤ u := by rw [hv, hu]; decide +kernel
    grind
  have a3 : u * (2 * (L + 1) * η) ≤ 1 * (2 * (L + 1) * η) := Rat.mul_le_mul_of_nonneg_right (by rw [hu]; decide +kernel) (Rat.mul_nonneg (by grind) hη)
  have a4 : (4 * (L + 1)) * η ≤ (32 * n) * η := Rat.mul_le_mul_of_nonneg_right (by grind) hη
  have a5 : 0 ≤ η * a := Rat.mul_nonneg hη ha
  grind
theorem near_on {a q w η n S D : Rat} (hq : q * a = 1) (ha : 0 ≤ a) (h : ab (w - q) ≤ uu * q + η) (hη : η * a ≤ uu) (hη0 : 0 ≤ η) (hS : S = ab (a * w)) (hD : D = ab (1 - a * w)) (hn : 1 ≤ n) : D ≤ S * (n + 2) * uu + (n + a) * (32 * η) := by
  have h1 := Rat.mul_le_mul_of_nonneg_right h ha
  have e1 : ab (w - q) * a = ab (1 - a * w) := by
    have : ab a = a := ab_of ha
    conv => lhs; rw [← this]
    rw [← ab_mul, ← ab_neg, show -((w - q) * a) = q * a - a * w from by grind, hq]
  have e2 : (uu * q + η) * a = uu + η * a := by
    have : (uu * q + η) * a = uu * (q * a) + η * a := by grind
    rw [this, hq]; grind
  rw [e1, e2, ← hD] at h1
  have h2 : 1 - D ≤ S := by
    have := ab_add (1 - a * w) (a * w)
    rw [show 1 - a * w + a * w = 1 from by grind, show ab (1 : Rat) = 1 from by decide +kernel, ← hS, ← hD] at this
    grind
  have h3 : 1 - 2 * uu ≤ S := by grind
  have hS0 : 0 ≤ S := by rw [hS]; exact ab_nonneg _
  have h4 : S * 3 * uu ≤ S * (n + 2) * uu := by
    have : S * 3 ≤ S * (n + 2) := Rat.mul_le_mul_of_nonneg_left (by grind) hS0
    exact Rat.mul_le_mul_of_nonneg_right this (by decide +kernel)
  have h5 : uu ≤ S * 3 * uu := by
    have h6 : (1 - 2 * uu) * (3 * uu) ≤ S * (3 * uu) := Rat.mul_le_mul_of_nonneg_right h3 (by decide +kernel)
    have h7 : uu ≤ (1 - 2 * uu) * (3 * uu) := by decide +kernel
    grind
  have h8 : 0 ≤ η * a := Rat.mul_nonneg hη0 ha
  have h9 : 0 ≤ η * n := Rat.mul_nonneg hη0 (by grind)
  grind
theorem pw_1070 : pw (-1070) = 32 * ηη := by
  unfold ηη
  rw [show (-1070 : Int) = 5 + -1075 from by decide, pw_add, show pw 5 = 32 from by decide +kernel]
theorem near_law {f : Fct} {n : Nat} (hn : f.C = (n : Int)) (hE : invE f = 0) {i j : Nat} (hij : i ≤ j) (hj : j < n) :
    ab (invD (gS f) i j (j - i + 1)) ≤ invZ (gS f) i j (j - i + 1) * ((n + 2 : Nat) : Rat) * pw (-53) + ((n : Rat) + fv (gS f i i)) * pw (-1070) := by
  obtain ⟨hok, hw, hd⟩ := invE_nw hE hn
  have hcl := check_len (show checkS f.C f.xs f.R f.T = true from hok)
  have hn6 : 1 ≤ n ∧ n ≤ 6 := by omega
  have hu : ∀ i j, fin (gS f i j) ∧ ab (fv (gS f i j)) ≤ pw 420 := fun i j => small_bd (getS_small hok _ _)
  have hs : sg (gS f i i) = false := getS_sg hok hn (by omega)
  have hr := hd i (by omega)
  have ha : 0 < fv (gS f i i) := fv_pos_lt hs hr
  have hn2 : ((n + 2 : Nat) : Rat) = (n : Rat) + 2 := by rw [Rat.natCast_add]; rfl
  have hnr : (n : Rat) ≤ 6 := by have := cast_le.2 hn6.2; exact this
  have hnr1 : 1 ≤ (n : Rat) := by have := cast_le.2 hn6.1; exact this
  rw [hn2, pw_1070, uu_eq]
  by_cases e : i = j
  · subst e
    obtain ⟨q, hq⟩ : ∃ q, q = 1 / fv (gS f i i) := ⟨_, rfl⟩
    have hqa : q * fv (gS f i i) = 1 := by rw [hq, Rat.div_mul_cancel (by grind)]
    have hq0 : 0 ≤ q := by
      refine Rat.not_lt.1 (fun h => ?_)
      have := Rat.mul_lt_mul_of_pos_right h ha
      rw [hqa, Rat.zero_mul] at this
      grind
    have hwk2 : fin (wS (gS f) i i) := hw i i (Nat.le_refl _) hj
    rw [wS_diag, arS_fdiv (by decide) (hu i i).1 hr] at hwk2
    have he := fdiv_err (a := oneF) (q := q) (by decide) (hu i i).1 hr hwk2 (by rw [hqa]; decide +kernel)
    rw [← arS_fdiv (by decide) (hu i i).1 hr, ← wS_diag, ab_of hq0] at he
    refine near_on (w := fv (wS (gS f) i i)) (q := q) hqa (Rat.le_of_lt ha) he ?_ (Rat.le_of_lt ηη_pos) ?_ ?_ hnr1
    · have h1 := (hu i i).2
      rw [ab_of (Rat.le_of_lt ha)] at h1
      have h2 := Rat.mul_le_mul_of_nonneg_left h1 (Rat.le_of_lt ηη_pos)
      refine Rat.le_trans h2 ?_
      unfold ηη
      rw [← pw_add, ← uu_eq]
      exact pw_le (by decide)
    · rw [Nat.sub_self]
      show 0 + ab (fv (gS f i (i + 0)) * fv (wS (gS f) (i + 0) i)) = _
      rw [Nat.add_zero]; grind
    · rw [Nat.sub_self]
      unfold invD
      rw [if_pos rfl]
      show ab (1 - (0 + fv (gS f i (i + 0)) * fv (wS (gS f) (i + 0) i))) = _
      rw [Nat.add_zero]; congr 1; grind
  · obtain ⟨L, hL⟩ : ∃ L, j - i = L + 1 := ⟨j - i - 1, by omega⟩
    have hlt : i < j := by omega
    have hwf : fin (wS (gS f) i j) := hw i j hij hj
    rw [wS_up _ hlt] at hwf
    have hsf := div_fin (hu i i).1 hwf
    rw [arS_fdiv hsf (hu i i).1 hr] at hwf
    obtain ⟨es, hk⟩ := left_sum (j - i) hsf
    obtain ⟨q, hq⟩ : ∃ q, q = fv (leftL (gS f) i (fun k => wS (gS f) k j) (j - i)) / fv (gS f i i) := ⟨_, rfl⟩
    have hqa : q * fv (gS f i i) = fv (leftL (gS f) i (fun k => wS (gS f) k j) (j - i)) := by rw [hq, Rat.div_mul_cancel (by grind)]
    have he := fdiv_err (q := q) hsf (hu i i).1 hr hwf hqa
    rw [← arS_fdiv hsf (hu i i).1 hr, ← wS_up _ hlt] at he
    rw [hL] at hk es hqa ⊢
    have herr := sum_err (t := ltT (gS f) i (fun k => wS (gS f) k j)) (T := fun m => - invP (gS f) i j (m + 1)) (w := uu) (η := ηη) (by decide +kernel) (by decide +kernel) (Rat.le_of_lt ηη_pos) L (by omega) (fun m hm => by
      obtain ⟨k1, k2, k3, k4⟩ := hk m hm
      obtain ⟨n1, n2, _⟩ := nW_facts k4
      refine ⟨n1, k1, ?_⟩
      have h5 := fmul_err' k2 k3 k4
      have e1 : fv (ltT (gS f) i (fun k => wS (gS f) k j) m) - - invP (gS f) i j (m + 1) = - (fv (fmul (gS f i (i + 1 + m)) (wS (gS f) (i + 1 + m) j)) - fv (gS f i (i + 1 + m)) * fv (wS (gS f) (i + 1 + m) j)) := by
        unfold ltT invP
        rw [n2, show i + (m + 1) = i + 1 + m from by omega]; grind
      have e2 : ab (- invP (gS f) i j (m + 1)) = ab (fv (gS f i (i + 1 + m)) * fv (wS (gS f) (i + 1 + m) j)) := by
        rw [ab_neg]; unfold invP; rw [show i + (m + 1) = i + 1 + m from by omega]
      rw [e1, ab_neg, e2]
      exact h5)
    rw [← es, sumR_neg, sumR_congr (t := fun m => ab (- invP (gS f) i j (m + 1))) (s := fun m => ab (invP (gS f) i j (m + 1))) (L + 1) (fun m _ => ab_neg _)] at herr
    have eD : invD (gS f) i j (L + 1 + 1) = - ((fv (gS f i i) * fv (wS (gS f) i j) - fv (leftL (gS f) i (fun k => wS (gS f) k j) (L + 1))) + (fv (leftL (gS f) i (fun k => wS (gS f) k j) (L + 1)) - - sumR (fun m => invP (gS f) i j (m + 1)) (L + 1))) := by
      unfold invD
      rw [if_neg e, sumR_shift]
      have : invP (gS f) i j 0 = fv (gS f i i) * fv (wS (gS f) i j) := by unfold invP; rw [Nat.add_zero]
      rw [this]; grind
    have eZ : invZ (gS f) i j (L + 1 + 1) = ab (fv (gS f i i) * fv (wS (gS f) i j)) + sumR (fun m => ab (invP (gS f) i j (m + 1))) (L + 1) := by
      unfold invZ
      rw [sumR_shift]
      have : invP (gS f) i j 0 = fv (gS f i i) * fv (wS (gS f) i j) := by unfold invP; rw [Nat.add_zero]
      rw [this]
    have hS0 := sumR_nonneg (t := fun m => ab (invP (gS f) i j (m + 1))) (L + 1) (fun m _ => ab_nonneg _)
    have hSs := ab_sumR (fun m => invP (gS f) i j (m + 1)) (L + 1)
    have hd1 : ab (fv (gS f i i) * fv (wS (gS f) i j) - fv (leftL (gS f) i (fun k => wS (gS f) k j) (L + 1))) ≤ uu * ab (fv (leftL (gS f) i (fun k => wS (gS f) k j) (L + 1))) + ηη * fv (gS f i i) := by
      have h1 := Rat.mul_le_mul_of_nonneg_right he (Rat.le_of_lt ha)
      have e1 : ab (fv (wS (gS f) i j) - q) * fv (gS f i i) = ab (fv (gS f i i) * fv (wS (gS f) i j) - fv (leftL (gS f) i (fun k => wS (gS f) k j) (L + 1))) := by
        conv => lhs; rw [← ab_of (Rat.le_of_lt ha)]
        rw [← ab_mul, show (fv (wS (gS f) i j) - q) * fv (gS f i i) = fv (gS f i i) * fv (wS (gS f) i j) - q * fv (gS f i i) from by grind, hqa]
      have e2 : (uu * ab q + ηη) * fv (gS f i i) = uu * ab (fv (leftL (gS f) i (fun k => wS (gS f) k j) (L + 1))) + ηη * fv (gS f i i) := by
        rw [← hqa, ab_mul, ab_of (Rat.le_of_lt ha)]; grind
      rw [e1, e2] at h1
      exact h1
    rw [eD, ab_neg, eZ]
    have hLr : (L : Rat) + 2 ≤ (n : Rat) := by
      have := cast_le.2 (show L + 2 ≤ n by omega)
      rwa [Rat.natCast_add] at this
    have hL0 : (0 : Rat) ≤ (L : Rat) := Rat.natCast_nonneg
    have hz := ab_nonneg (fv (gS f i i) * fv (wS (gS f) i j))
    generalize fv (leftL (gS f) i (fun k => wS (gS f) k j) (L + 1)) = s at *
    generalize sumR (fun m => invP (gS f) i j (m + 1)) (L + 1) = P at *
    generalize sumR (fun m => ab (invP (gS f) i j (m + 1))) (L + 1) = S at *
    generalize fv (gS f i i) * fv (wS (gS f) i j) = aw at *
    have hsb : ab s ≤ S + ab (s - - P) := by
      have b1 := ab_add (s - - P) (- P)
      rw [show s - - P + - P = s from by grind, ab_neg] at b1
      grind
    have hd2 : ab (aw - s) ≤ uu * (S + ab (s - - P)) + ηη * fv (gS f i i) := by
      have := Rat.mul_le_mul_of_nonneg_left hsb (show 0 ≤ uu by decide +kernel)
      grind
    have key := near_off (n := (n : Rat)) (L := (L : Rat)) (u := uu) (v := vv) (η := ηη) (a := fv (gS f i i)) (S := S) (d2 := ab (s - - P)) hd2 (Rat.le_refl) herr hS0 (Rat.le_of_lt ηη_pos) (Rat.le_of_lt ha) rfl rfl hL0 hLr hnr
    have h6 := ab_add (aw - s) (s - - P)
    have h7 : S * ((n : Rat) + 2) * uu ≤ (ab aw + S) * ((n : Rat) + 2) * uu := by
      have : S * ((n : Rat) + 2) ≤ (ab aw + S) * ((n : Rat) + 2) := Rat.mul_le_mul_of_nonneg_right (by grind) (by grind)
      exact Rat.mul_le_mul_of_nonneg_right this (by decide +kernel)
    grind
end Lev
