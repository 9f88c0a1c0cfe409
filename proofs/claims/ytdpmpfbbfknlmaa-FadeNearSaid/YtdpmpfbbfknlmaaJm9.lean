/- Plain: the Gram list of a faded factor is near. -/
import Derived.Test.YtdpmpfbbfknlmaaJ9
import Derived.Test.YtdpmpfbbfknlmaaW9
namespace Lev
open Ieee
theorem gramR_len (t : Nat → Rat) (N : Nat) : ∀ k, (gramR t N k).length = st N k
  | 0 => rfl
  | k + 1 => by
    show (gramR t N k ++ _).length = _
    rw [List.length_append, List.length_map, List.length_range, gramR_len t N k, st_succ]
theorem gramR_at (t : Nat → Rat) (N : Nat) : ∀ k i s, i < k → s < N - i → (gramR t N k)[st N i + s]? = some (t i * t (i + s))
  | 0, i, s, h, _ => absurd h (Nat.not_lt_zero _)
  | k + 1, i, s, h, hs => by
    show (gramR t N k ++ _)[st N i + s]? = _
    have hl := gramR_len t N k
    by_cases e : i < k
    · have h1 := st_mono (N := N) (show i + 1 ≤ k by omega)
      rw [st_succ] at h1
      rw [List.getElem?_append_left (by omega)]
      exact gramR_at t N k i s e hs
    · obtain rfl : i = k := by omega
      rw [List.getElem?_append_right (by omega), hl, Nat.add_sub_cancel_left, List.getElem?_map, List.getElem?_range hs]
      rfl
theorem gv_at (t : Nat → Rat) {n i j : Nat} (h1 : i ≤ j) (h2 : j ≤ n) : gv t n (st (n + 1) i + (j - i)) = t i * t j := by
  unfold gv
  rw [gramR_at t (n + 1) (n + 1) i (j - i) (by omega) (by omega), show i + (j - i) = j from by omega]
  rfl
theorem gramS_at (f : Fct) {n i j : Nat} (h1 : i ≤ j) (h2 : j ≤ n) : gramS f n (st (n + 1) i + (j - i)) = sumR (fun k => fv (getS f k i) * fv (getS f k j)) (n + 1) := by
  unfold gramS
  exact sumR_congr _ (fun k _ => gv_at (fun i => fv (getS f k i)) h1 h2)
theorem gramS_R9 {f : Fct} (h : f.ok = true) (n j : Nat) (hn : n ≤ 6) : R 2148 2060 (gramS f n j) := by
  unfold gramS
  exact R_mono (R_sum (t := fun k : Nat => gv (fun i => fv (getS f k i)) n j) (n + 1) (fun i _ => gv_R (fun k _ => R_fv (getS_fin h _ _)))) (by omega) (by omega)
theorem sum_bb (x y : Nat → Rat) (b : Rat) : ∀ k : Nat, sumR (fun i => x i * y i) k * b * b = sumR (fun i => (x i * b) * (y i * b)) k
  | 0 => by show (0 : Rat) * b * b = 0; grind
  | k + 1 => by
    show (sumR (fun i => x i * y i) k + x k * y k) * b * b = sumR (fun i => (x i * b) * (y i * b)) k + (x k * b) * (y k * b)
    rw [← sum_bb x y b k]; grind
/-- A faded entry. -/
theorem fade_err {f : Fct} (h : f.ok = true) {b : Nat} (hm : mayS b = true) (R' T' : Int) (hg : (⟨f.C, fadeL b f.xs, R', T'⟩ : Fct).ok = true) (i j : Int) :
    ab (fv (getS ⟨f.C, fadeL b f.xs, R', T'⟩ i j) - fv (getS f i j) * fv b) ≤ uu * ab (fv (getS f i j) * fv b) + pw (-1075) := by
  have hx := getS_fin h i j
  have hy := getS_fin hg i j
  have z : ab (fv 0 - fv 0 * fv b) ≤ uu * ab (fv 0 * fv b) + pw (-1075) := by
    have e : fv 0 = 0 := by decide +kernel
    have hp := pw_pos (-1075)
    rw [e, Rat.zero_mul, show (0 : Rat) - 0 = 0 from by grind, show ab (0 : Rat) = 0 from by decide +kernel]
    unfold uu; grind
  have hff : getS f i j = if atB f.C i j && f.ok then f.xs[(atI f.C i j).toNat]?.getD 0 else 0 := rfl
  have hgg : getS ⟨f.C, fadeL b f.xs, R', T'⟩ i j = if atB f.C i j && (⟨f.C, fadeL b f.xs, R', T'⟩ : Fct).ok then (fadeL b f.xs)[(atI f.C i j).toNat]?.getD 0 else 0 := rfl
  rw [h] at hff
  rw [hg] at hgg
  by_cases ha : atB f.C i j = true
  · rw [ha] at hff hgg
    by_cases hl : (atI f.C i j).toNat < f.xs.length
    · have e1 : getS ⟨f.C, fadeL b f.xs, R', T'⟩ i j = fmul (getS f i j) b := by
        rw [hgg, hff]
        show (fadeL b f.xs)[(atI f.C i j).toNat]?.getD 0 = fmul (f.xs[(atI f.C i j).toNat]?.getD 0) b
        exact fadeL_get hl
      rw [e1] at hy ⊢
      rw [← uu_eq]
      exact fmul_err hx (may_facts hm).1 hy
    · have e1 : getS f i j = 0 := by
        rw [hff]
        show f.xs[(atI f.C i j).toNat]?.getD 0 = 0
        rw [List.getElem?_eq_none (by omega)]; rfl
      have e2 : getS ⟨f.C, fadeL b f.xs, R', T'⟩ i j = 0 := by
        rw [hgg]
        show (fadeL b f.xs)[(atI f.C i j).toNat]?.getD 0 = 0
        rw [List.getElem?_eq_none (by rw [fadeL_length]; omega)]; rfl
      rw [e1, e2]; exact z
  · have ha : atB f.C i j = false := by simpa using ha
    rw [ha] at hff hgg
    have e1 : getS f i j = 0 := hff
    have e2 : getS ⟨f.C, fadeL b f.xs, R', T'⟩ i j = 0 := hgg
    rw [e1, e2]; exact z
/-- What Check wants. -/
theorem fade_near {f : Fct} (h : f.ok = true) {b : Nat} (hm : mayS b = true) (R' T' : Int) (hg : (⟨f.C, fadeL b f.xs, R', T'⟩ : Fct).ok = true) {n i j : Nat} (hn : n ≤ 6) (h1 : i ≤ j) (h2 : j ≤ n) {U V : Rat} (hU : 0 ≤ U) (hV : 0 ≤ V)
    (hi : gramS f n (st (n + 1) i) * fv b * fv b ≤ U * U) (hj : gramS f n (st (n + 1) j) * fv b * fv b ≤ V * V) :
    ab (gramS ⟨f.C, fadeL b f.xs, R', T'⟩ n (st (n + 1) i + (j - i)) - gramS f n (st (n + 1) i + (j - i)) * fv b * fv b) ≤ bdQ U V := by
  have ei := gramS_at f (Nat.le_refl i) (show i ≤ n by omega)
  have ej := gramS_at f (Nat.le_refl j) h2
  rw [Nat.sub_self, Nat.add_zero] at ei ej
  rw [ei, sum_bb] at hi
  rw [ej, sum_bb] at hj
  rw [gramS_at f h1 h2, gramS_at _ h1 h2, sum_bb]
  exact near_bound hU hV (k := n + 1) (by omega) hi hj (fun k _ => fade_err h hm R' T' hg k i) (fun k _ => fade_err h hm R' T' hg k j)
theorem fade_pos {f : Fct} {b : Nat} {n i : Nat} (h2 : i ≤ n) : 0 ≤ gramS f n (st (n + 1) i) * fv b * fv b := by
  have ei := gramS_at f (Nat.le_refl i) h2
  rw [Nat.sub_self, Nat.add_zero] at ei
  rw [ei, sum_bb]
  exact sumR_nonneg _ (fun k _ => sq_nonneg9 _)
theorem fade_R {f : Fct} (h : f.ok = true) {b : Nat} (hf : fin b) (n j : Nat) (hn : n ≤ 6) : R 4296 4110 (gramS f n j * fv b * fv b) :=
  R_mul (a := 3222) (b := 3085) (c := 1074) (d := 1025) (R_mul (a := 2148) (b := 2060) (c := 1074) (d := 1025) (gramS_R9 h n j hn) (R_fv hf)) (R_fv hf)
theorem st_whole {n : Nat} (h : 1 ≤ n ∧ n ≤ 6) : sizeI (n : Int) = ((st (n + 1) (n + 1) : Nat) : Int) := by
  have h : n = 1 ∨ n = 2 ∨ n = 3 ∨ n = 4 ∨ n = 5 ∨ n = 6 := by omega
  rcases h with e | e | e | e | e | e <;> rw [e] <;> decide
theorem st_place {n i j : Nat} (h1 : i ≤ j) (h2 : j ≤ n) : st (n + 1) i + (j - i) < st (n + 1) (n + 1) := by
  have h3 := st_mono (N := n + 1) (show i + 1 ≤ n + 1 by omega)
  rw [st_succ] at h3
  omega
end Lev
