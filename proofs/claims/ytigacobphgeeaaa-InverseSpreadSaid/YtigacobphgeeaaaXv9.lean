/- Plain: the law InverseLeast. -/
import Derived.Test.YtigacobphgeeaaaXu9
import Derived.Test.YtigacobphgeeaaaVm9
import Derived.Test.YtigacobphgeeaaaI9
set_option linter.unusedVariables false
namespace Lev
open Ieee

theorem mul_alt {a b : Nat} (h : ¬ (fin a ∧ fin b)) : D.mul a b = none ∨ ∃ s, D.mul a b = some (D.write (.infinity s)) := by
  have hI := INF_eq
  by_cases ha : INF < rg a
  · exact .inl (mul_nan_l ha b)
  by_cases hb : INF < rg b
  · exact .inl (mul_nan_r hb a)
  by_cases ha2 : rg a = INF
  · by_cases hb2 : rg b = INF
    · right
      refine ⟨sg a ^^ sg b, ?_⟩
      unfold Format.mul
      rw [read_inf ha2, read_inf hb2]; rfl
    · obtain ⟨m, i, h1, _⟩ := read_fin (b := b) (by unfold fin; omega)
      unfold Format.mul
      rw [read_inf ha2, h1]
      show (Option.map D.write (if m = 0 then none else some (Datum.infinity (sg a ^^ sg b)))) = none ∨ ∃ s, (Option.map D.write (if m = 0 then none else some (Datum.infinity (sg a ^^ sg b)))) = _
      by_cases hm : m = 0
      · rw [if_pos hm]; exact .inl rfl
      · rw [if_neg hm]; exact .inr ⟨_, rfl⟩
  · have fa : fin a := by unfold fin; omega
    have hb2 : rg b = INF := by
      by_cases h3 : rg b = INF
      · exact h3
      · exact absurd ⟨fa, by unfold fin; omega⟩ h
    obtain ⟨m, i, h1, _⟩ := read_fin fa
    unfold Format.mul
    rw [read_inf hb2, h1]
    show (Option.map D.write (if m = 0 then none else some (Datum.infinity (sg b ^^ sg a)))) = none ∨ ∃ s, (Option.map D.write (if m = 0 then none else some (Datum.infinity (sg b ^^ sg a)))) = _
    by_cases hm : m = 0
    · rw [if_pos hm]; exact .inl rfl
    · rw [if_neg hm]; exact .inr ⟨_, rfl⟩
theorem mul_fin {a b : Nat} (h : fin (arS .mul a b)) : fin a ∧ fin b := by
  by_cases hc : fin a ∧ fin b
  · exact hc
  · exact absurd h (arS_alt (op := .mul) (mul_alt hc))
theorem arS_fdiv {a b : Nat} (ha : fin a) (hb : fin b) (h0 : rg b ≠ 0) : arS .quo a b = fdiv a b := by
  obtain ⟨r, m1, m2⟩ := div_spec ha hb h0
  unfold arS fdiv
  rw [show Go.floatBits .quo .f64 a b = some _ from m1, m1]
  exact cn_num (by rw [rg_word _ _ m2.lt63]; have := m2.le; omega)
theorem colL_sumT (g : Nat → Nat → Nat) (j : Nat) : ∀ m, colL g j m = sumT (fun i => rg (g i j)) m
  | 0 => rfl
  | m + 1 => by
    show fadd (colL g j m) (rg (g m j)) = fadd (sumT (fun i => rg (g i j)) m) (rg (g m j))
    rw [colL_sumT g j m]
theorem flt_word {a b : Nat} (ha : a ≤ INF) (hb : b ≤ INF) : flt a b = decide (a < b) := by
  obtain ⟨a1, _, _⟩ := pos_word ha
  obtain ⟨b1, _, _⟩ := pos_word hb
  have h5 : ord a = ((a : Nat) : Int) := by have := ord_rg a; rw [a1] at this; exact this
  have h6 : ord b = ((b : Nat) : Int) := by have := ord_rg b; rw [b1] at this; exact this
  unfold flt
  rw [h5, h6, a1, b1, decide_eq_decide]
  omega
theorem maxL_ge {c : Nat → Nat} : ∀ m, (∀ i, i < m → c i ≤ INF) → ∀ i, i < m → c i ≤ maxL c m
  | 0, _, i, hi => absurd hi (Nat.not_lt_zero _)
  | m + 1, h, i, hi => by
    have h1 := maxL_pos m (fun i hi => h i (by omega))
    show c i ≤ (if flt (maxL c m) (c m) = true then c m else maxL c m)
    have hfl : flt (maxL c m) (c m) = true ↔ maxL c m < c m := by rw [flt_word h1 (h m (by omega)), decide_eq_true_eq]
    have h2 : i ≠ m → c i ≤ maxL c m := fun e => maxL_ge m (fun i hi => h i (by omega)) i (by omega)
    split
    · next h3 =>
      have h4 := hfl.1 h3
      by_cases e : i = m
      · rw [e]; exact Nat.le_refl _
      · have := h2 e; omega
    · next h3 =>
      have h4 : ¬ maxL c m < c m := fun h => h3 (hfl.2 h)
      by_cases e : i = m
      · rw [e]; omega
      · exact h2 e
theorem fv_wle {a b : Nat} (ha : a ≤ INF) (hb : b ≤ INF) (h : a ≤ b) : fv a ≤ fv b := by
  obtain ⟨a1, a2, _⟩ := pos_word ha
  obtain ⟨b1, b2, _⟩ := pos_word hb
  rw [fv_pos a2, fv_pos b2, a1, b1]
  exact unit_le.2 (rm_mono h)
theorem getS_sg {f : Fct} (h : f.ok = true) {n k : Nat} (hn : f.C = (n : Int)) (hk : k ≤ n) : sg (getS f k k) = false := by
  have hc : checkS f.C f.xs f.R f.T = true := h
  obtain ⟨h1, h2, h3, _, _, _, _, _, h8⟩ := check_len hc
  have h9 := ((rowsOk_iff h3).1 h8).2 k (by omega)
  have e : atB f.C (k : Int) (k : Int) = true := atB_iff.2 ⟨h1, h2, by omega, by omega, by omega⟩
  have e2 : atI f.C (k : Int) (k : Int) = ((st (f.C + 1).toNat k : Nat) : Int) := by unfold atI; rw [if_pos e, Int.toNat_natCast]; omega
  unfold getS
  rw [e, h, Bool.and_true, if_pos rfl, e2, Int.toNat_natCast]
  exact h9
theorem least_fin {U W a c S P : Rat} (h1 : 1 - 2 * uu ≤ W * a) (h2 : S * (1 - 7 * uu) ≤ U) (h3 : P = U * W) (h4 : P * (1 - uu) ≤ c) (hS : 0 ≤ S) (ha : 0 ≤ a) (hU : 0 ≤ U) : S * (1 - 1 / 1099511627776) ≤ c * a := by
  have t1 := Rat.mul_le_mul_of_nonneg_left h1 hU
  have t2 := Rat.mul_le_mul_of_nonneg_right h4 ha
  have e1 : P * (1 - uu) * a = (U * (W * a)) * (1 - uu) := by rw [h3]; grind
  rw [e1] at t2
  generalize U * (W * a) = Z at *
  unfold uu at *
  grind
theorem least_fin2 {U W a c P : Rat} (h1 : 1 - 2 * uu ≤ W * a) (h2 : a * (1 - 7 * uu) ≤ U) (h3 : P = U * W) (hW : 0 ≤ W) : 1 - 9 * uu ≤ P := by
  have t1 := Rat.mul_le_mul_of_nonneg_right h2 hW
  rw [← h3, show a * (1 - 7 * uu) * W = (W * a) * (1 - 7 * uu) from by grind] at t1
  generalize W * a = Z at *
  unfold uu at *
  grind
theorem least_w {a q w η : Rat} (hq : q * a = 1) (ha : 0 ≤ a) (hw : q - uu * q - η ≤ w) (hη : η * a ≤ uu) : 1 - 2 * uu ≤ w * a := by
  have t := Rat.mul_le_mul_of_nonneg_right hw ha
  rw [show (q - uu * q - η) * a = q * a - uu * (q * a) - η * a from by grind, hq] at t
  grind
theorem least_u {m S s : Rat} (h : S - s ≤ (m * vv + 0) * S + 2 * (m + 1) * 0) (hm : m ≤ 6) (hS : 0 ≤ S) : S * (1 - 7 * uu) ≤ s := by
  have h0 : m * vv ≤ 6 * vv := Rat.mul_le_mul_of_nonneg_right hm (by decide +kernel)
  have h1 := Rat.mul_le_mul_of_nonneg_right (Rat.le_trans h0 (show 6 * vv ≤ 7 * uu from by decide +kernel)) hS
  generalize uu = u at *
  generalize vv = v at *
  grind
theorem inv_of {x y c : Rat} (h : x * y = 1) (hy : y = c) (hc : c ≠ 0) : x = 1 / c := by
  rw [hy] at h
  grind
theorem pw40v : pw 40 = 1099511627776 := by rw [show (40 : Int) = ((40 : Nat) : Int) from rfl, pw_nat]; decide +kernel
theorem pw_40 : pw (-40) = 1 / 1099511627776 := by
  have h : pw (-40) * pw 40 = 1 := by rw [← pw_add]; exact pw_zero
  exact inv_of h pw40v (by decide +kernel)
theorem fin_of_le {a b : Nat} (h : a ≤ b) (hb : fin b) (hb2 : b ≤ INF) : fin a := by
  obtain ⟨b1, _, _⟩ := pos_word hb2
  obtain ⟨a1, _, _⟩ := pos_word (Nat.le_trans h hb2)
  unfold fin at *; omega
theorem cond_facts {f : Fct} {n : Nat} (hE : condE f = 0) (hn : f.C = (n : Int)) : invE f = 0 ∧ fin (condC f) := by
  unfold condE at hE
  split at hE
  · next h => exact absurd hE h
  · next h =>
    refine ⟨by simpa using h, ?_⟩
    split at hE
    · exact absurd hE (by decide)
    · next h2 =>
      unfold wildS at h2
      rw [decide_eq_true_eq] at h2
      unfold fin; omega
theorem least_law {f : Fct} {n : Nat} (hn : f.C = (n : Int)) (hE : condE f = 0) :
    fin (condC f) ∧ 1 - pw (-40) ≤ fv (condC f) ∧ ∀ j k, j < n → k < n → sumR (fun i => ab (fv (gS f i j))) (j + 1) * (1 - pw (-40)) ≤ fv (condC f) * fv (gS f k k) := by
  obtain ⟨hI, hcf⟩ := cond_facts hE hn
  obtain ⟨hok, hw, hd⟩ := invE_nw hI hn
  have hcl := check_len (show checkS f.C f.xs f.R f.T = true from hok)
  have hn6 : 1 ≤ n ∧ n ≤ 6 := by omega
  have hu : ∀ i j, fin (gS f i j) ∧ ab (fv (gS f i j)) ≤ pw 420 := fun i j => small_bd (getS_small hok _ _)
  have hcc : condC f = arS .mul (oneS (gS f) n) (oneS (wS (gS f)) n) := by unfold condC; rw [hn, Int.toNat_natCast]
  rw [hcc] at hcf
  obtain ⟨fU, fW⟩ := mul_fin hcf
  have hcc2 := hcc
  rw [arS_fmul fU fW] at hcc2 hcf
  -- the columns' sums
  have hcu : ∀ j, j < n → colS (gS f) j ≤ INF := fun j hj => colL_pos _ (fun i _ => by have := (hu i j).1; unfold fin at this; exact this)
  have hcw : ∀ j, j < n → colS (wS (gS f)) j ≤ INF := fun j hj => colL_pos _ (fun i hi => hw i j (by omega) hj)
  have hUI : oneS (gS f) n ≤ INF := maxL_pos n hcu
  have hWI : oneS (wS (gS f)) n ≤ INF := maxL_pos n hcw
  have hge : ∀ j, j < n → fv (colS (gS f) j) ≤ fv (oneS (gS f) n) := fun j hj => fv_wle (hcu j hj) hUI (maxL_ge n hcu j hj)
  have hU0 : 0 ≤ fv (oneS (gS f) n) := fv_nonneg (pos_word hUI).2.1
  have hW0 : 0 ≤ fv (oneS (wS (gS f)) n) := fv_nonneg (pos_word hWI).2.1
  have hS : ∀ j, j < n → sumR (fun i => ab (fv (gS f i j))) (j + 1) * (1 - 7 * uu) ≤ fv (oneS (gS f) n) := fun j hj => by
    have ht : ∀ i, i < j + 1 → fin (rg (gS f i j)) ∧ ab (fv (rg (gS f i j))) ≤ pw 420 := fun i _ => ⟨fin_rg' (hu i j).1, by rw [ab_rg]; exact (hu i j).2⟩
    have hs := sum_err (t := fun i => rg (gS f i j)) (T := fun i => ab (fv (gS f i j))) (w := 0) (η := 0) Rat.le_refl (by decide +kernel) Rat.le_refl j (by omega) (fun i hi => by
      have hf := sumT_bd (t := fun i => rg (gS f i j)) (E := 420) (by decide) (by decide) (i + 1) (by omega) (fun q hq => ht q (by omega))
      refine ⟨(ht i hi).1, hf.1, ?_⟩
      show ab (fv (rg (gS f i j)) - ab (fv (gS f i j))) ≤ _
      rw [fv_rg, show ∀ x : Rat, x - x = 0 from fun x => by grind, ab_zero]
      grind)
    rw [sumR_congr (t := fun i => ab (ab (fv (gS f i j)))) (s := fun i => ab (fv (gS f i j))) (j + 1) (fun i _ => by show ab (ab _) = _; rw [ab_of (ab_nonneg _)])] at hs
    have e : colS (gS f) j = sumT (fun i => rg (gS f i j)) (j + 1) := colL_sumT _ _ _
    rw [← e] at hs
    have hj6 : (j : Rat) ≤ 6 := by have := cast_le.2 (show j ≤ 6 by omega); exact this
    exact Rat.le_trans (least_u (by have := (ab_le_iff.1 hs).1; grind) hj6 (sumR_nonneg _ (fun i _ => ab_nonneg _))) (hge j hj)
  -- the inverse's diagonal
  have hdg : ∀ k, k < n → 0 < fv (gS f k k) ∧ 1 - 2 * uu ≤ fv (oneS (wS (gS f)) n) * fv (gS f k k) := fun k hk => by
    have hs : sg (gS f k k) = false := getS_sg hok hn (by omega)
    have hr := hd k hk
    have ha : 0 < fv (gS f k k) := fv_pos_lt hs hr
    refine ⟨ha, ?_⟩
    obtain ⟨q, hq⟩ : ∃ q, q = 1 / fv (gS f k k) := ⟨_, rfl⟩
    have hqa : q * fv (gS f k k) = 1 := by rw [hq, Rat.div_mul_cancel (by grind)]
    have hq0 : 0 ≤ q := by
      refine Rat.not_lt.1 (fun h => ?_)
      have := Rat.mul_lt_mul_of_pos_right h ha
      rw [hqa, Rat.zero_mul] at this
      grind
    have hwk := hw k k (Nat.le_refl _) hk
    have hwk2 : fin (wS (gS f) k k) := hwk
    rw [wS_diag, arS_fdiv (by decide) (hu k k).1 hr] at hwk2
    have he := fdiv_err (a := oneF) (q := q) (by decide) (hu k k).1 hr hwk2 (by rw [hqa]; decide +kernel)
    rw [← arS_fdiv (by decide) (hu k k).1 hr, ← wS_diag, ab_of hq0] at he
    have hwl : q - uu * q - ηη ≤ ab (fv (wS (gS f) k k)) := by
      have h1 := (ab_le_iff.1 he).1
      have h2 : fv (wS (gS f) k k) ≤ ab (fv (wS (gS f) k k)) := by unfold ab; split <;> grind
      grind
    have hcol : ab (fv (wS (gS f) k k)) ≤ fv (oneS (wS (gS f)) n) := by
      have hk1 := maxL_ge n hcw k hk
      have hfc : fin (colS (wS (gS f)) k) := fin_of_le hk1 fW hWI
      have hp := colL_pos (g := wS (gS f)) (j := k) k (fun i hi => hw i k (by omega) hk)
      have had := add_pos hp hwk
      have hf2 : fin (colL (wS (gS f)) k k) := by
        refine (add_fin (a := colL (wS (gS f)) k k) (b := rg (wS (gS f) k k)) ?_).1
        have e : arS .add (colL (wS (gS f)) k k) (rg (wS (gS f) k k)) = colS (wS (gS f)) k := by
          unfold arS
          rw [show Go.floatBits .add .f64 (colL (wS (gS f)) k k) (rg (wS (gS f) k k)) = some _ from had.1]
          exact cn_num (by rw [(pos_word had.2).1]; have := had.2; omega)
        rw [e]; exact hfc
      have h2 := (fadd_ge hf2 (fin_rg' (x := wS (gS f) k k) hwk) (pos_word hp).2.1 (sg_rg _)).2
      rw [rg_rg] at h2
      have h3 : rg (wS (gS f) k k) ≤ colS (wS (gS f)) k := by
        have := (pos_word had.2).1
        show _ ≤ fadd (colL (wS (gS f)) k k) (rg (wS (gS f) k k))
        omega
      rw [← fv_rg]
      exact fv_wle (by have := INF_eq; omega) hWI (Nat.le_trans h3 hk1)
    refine least_w (η := ηη) hqa (Rat.le_of_lt ha) (Rat.le_trans hwl hcol) ?_
    have h1 := (hu k k).2
    rw [ab_of (Rat.le_of_lt ha)] at h1
    have h2 := Rat.mul_le_mul_of_nonneg_left h1 (Rat.le_of_lt ηη_pos)
    refine Rat.le_trans h2 ?_
    unfold ηη
    rw [← pw_add, ← uu_eq]
    exact pw_le (by decide)
  -- the product
  obtain ⟨ha0, hd0⟩ := hdg 0 (by omega)
  have hP : 1 - 9 * uu ≤ fv (oneS (gS f) n) * fv (oneS (wS (gS f)) n) := by
    refine least_fin2 (c := 0) hd0 ?_ rfl hW0
    have h1 := hS 0 (by omega)
    have e : sumR (fun i => ab (fv (gS f i 0))) (0 + 1) = fv (gS f 0 0) := by
      show 0 + ab (fv (gS f 0 0)) = _
      rw [ab_of (Rat.le_of_lt ha0)]; grind
    rw [e] at h1
    exact h1
  have hPp : 0 ≤ fv (oneS (gS f) n) * fv (oneS (wS (gS f)) n) := Rat.mul_nonneg hU0 hW0
  have hc := fmul_err_big fU fW hcf (.inr (by
    rw [ab_of hPp]
    refine Rat.le_trans ?_ hP
    refine Rat.le_trans (pw_le (show (-1022 : Int) ≤ -1 by decide)) ?_
    decide +kernel))
  rw [ab_of hPp, uu_eq, ← hcc2] at hc
  have hc2 : fv (oneS (gS f) n) * fv (oneS (wS (gS f)) n) * (1 - uu) ≤ fv (condC f) := by
    have := (ab_le_iff.1 hc).1
    grind
  refine ⟨by rw [hcc2]; exact hcf, ?_, fun j k hj hk => ?_⟩
  · rw [pw_40]
    generalize fv (oneS (gS f) n) * fv (oneS (wS (gS f)) n) = P at *
    unfold uu at *
    grind
  · rw [pw_40]
    exact least_fin (hdg k hk).2 (hS j hj) rfl hc2 (sumR_nonneg _ (fun i _ => ab_nonneg _)) (Rat.le_of_lt (hdg k hk).1) hU0
end Lev
