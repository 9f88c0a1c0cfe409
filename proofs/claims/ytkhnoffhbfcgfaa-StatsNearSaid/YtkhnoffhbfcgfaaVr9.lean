/- Plain: the sum of the squares is near; the rest is near. -/
import Derived.Test.YtkhnoffhbfcgfaaW9
import Derived.Test.YtkhnoffhbfcgfaaVa9
namespace Lev
open Ieee
theorem gv_last (t : Nat → Rat) {n : Nat} (h : 1 ≤ n ∧ n ≤ 6) : gv t n ((sizeI n).toNat - 1) = t n * t n := by
  have h : n = 1 ∨ n = 2 ∨ n = 3 ∨ n = 4 ∨ n = 5 ∨ n = 6 := by omega
  unfold gv
  rcases h with e | e | e | e | e | e <;> rw [e] <;> rfl
theorem ab_sq (x : Rat) : ab (x * x) = x * x := by
  refine ab_of ?_
  rw [show x * x = ab x * ab x from by unfold ab; split <;> grind]
  exact Rat.mul_nonneg (ab_nonneg _) (ab_nonneg _)
theorem near_fin {D X S Y z o : Rat} (hd : D ≤ X * S + Y) (h : X * S ≤ z) (hy : Y ≤ o) : D ≤ z + o := by grind
theorem small_tail {m q r : Rat} (h0 : 0 ≤ q) (hm : m ≤ 6) (hr : r = 32768 * q) : 2 * (m + 1) * q ≤ r := by
  have := Rat.mul_le_mul_of_nonneg_right (show 2 * (m + 1) ≤ 32768 by grind) h0
  grind
theorem total_law {f : Fct} (h : f.ok = true) {n : Nat} (hn : f.C = (n : Int)) :
    ab (fv (stTot f) - gramS f n ((sizeI n).toNat - 1)) ≤ gramS f n ((sizeI n).toNat - 1) * ((n + 3 : Nat) : Rat) * pw (-53) + pw (-1060) := by
  have hc := ok_len h
  have hn6 : 1 ≤ n ∧ n ≤ 6 := by omega
  have hg : gramS f n ((sizeI n).toNat - 1) = sumR (fun k => fv (getS f k n) * fv (getS f k n)) (n + 1) := by
    unfold gramS
    exact sumR_congr _ (fun k _ => gv_last _ hn6)
  have ht : stTot f = sumT (stT f) (n + 1) := by unfold stTot; rw [hn]; rfl
  rw [hg, ht]
  have he := sum_err (t := stT f) (T := fun k => fv (getS f k n) * fv (getS f k n)) (w := pw (-53)) (η := pw (-1075)) (Rat.le_of_lt (pw_pos _)) (by decide +kernel) (Rat.le_of_lt (pw_pos _)) n (by omega) (fun i hi => by
    have h1 := stT_bd h i
    have hsm := small_fin (getS_small h (i : Int) f.C)
    refine ⟨h1.1, (stSum h (k := i + 1) (by omega)).2.1, ?_⟩
    have := fmul_err hsm hsm h1.1
    unfold stT
    rw [hn] at this ⊢
    exact this)
  rw [sumR_congr (t := fun i => ab (fv (getS f i n) * fv (getS f i n))) (n + 1) (fun i _ => ab_sq _)] at he
  have hm1 : (n : Rat) ≤ 6 := by have := cast_le.2 hn6.2; exact this
  have hm0 : (0 : Rat) ≤ (n : Rat) := Rat.natCast_nonneg
  have hP0 := sumR_nonneg (t := fun i => fv (getS f i n) * fv (getS f i n)) (n + 1) (fun i _ => by rw [← ab_sq]; exact ab_nonneg _)
  have hp : pw (-1060) = 32768 * pw (-1075) := by
    rw [show (32768 : Rat) = pw 15 from by decide +kernel, ← pw_add]; rfl
  have hq := Rat.le_of_lt (pw_pos (-1075))
  have h2 := small_tail hq hm1 hp
  have e1 : ((n + 3 : Nat) : Rat) = (n : Rat) + 3 := by rw [Rat.natCast_add]; rfl
  rw [e1]
  rw [uu_eq] at he ⊢
  have hc : ((n : Rat) * vv + uu) ≤ ((n : Rat) + 3) * uu := by unfold vv uu; grind
  have h4 := Rat.mul_le_mul_of_nonneg_right hc hP0
  generalize sumR (fun k => fv (getS f k n) * fv (getS f k n)) (n + 1) = P at *
  exact near_fin he (by rw [show P * ((n : Rat) + 3) * uu = ((n : Rat) + 3) * uu * P from by grind]; exact h4) h2
theorem rest_law {f : Fct} (h : f.ok = true) {n : Nat} (hn : f.C = (n : Int)) : wiQ (fv (stRest f)) (fv (getS f n n) * fv (getS f n n)) 1 = true := by
  have h1 := stT_bd h n
  have hsm := small_fin (getS_small h (n : Int) f.C)
  have := fmul_err hsm hsm h1.1
  unfold wiQ
  rw [decide_eq_true_eq, cmpQ_le]
  have e : stRest f = fmul (getS f n n) (getS f n n) := by unfold stRest stT; rw [hn]; rfl
  rw [e]
  rw [hn] at this
  rw [show ((1 : Nat) : Rat) = 1 from rfl, Rat.mul_one, Rat.mul_comm (ab _)]
  exact this
end Lev
