/- Plain: what is left over by a factor's answers. -/
import Derived.Test.YtigacobphgeeaaaT9
namespace Lev
open Ieee

theorem div_le_of {a b c : Rat} (hb : 0 < b) (h : a ≤ c * b) : a / b ≤ c := by
  refine Rat.not_lt.1 (fun h1 => ?_)
  have h2 := Rat.mul_lt_mul_of_pos_right h1 hb
  rw [Rat.div_mul_cancel (by grind)] at h2
  grind
theorem small_bd {x : Nat} (h : small x = true) : fin x ∧ ab (fv x) ≤ pw 420 := by
  have hI := INF_eq
  have hf := small_fin h
  unfold small at h
  rw [decide_eq_true_eq] at h
  refine ⟨hf, ?_⟩
  have h2 : ab (fv 6498694262295625728) = pw 420 := by rw [show fv 6498694262295625728 = pw 420 from fv_pow 1443 (by decide) (by decide), ab_pw]
  rw [← h2, ab_fv, ab_fv, show rg 6498694262295625728 = 6498694262295625728 from by decide]
  exact unit_le.2 (rm_mono h)
theorem sq_bd {x : Nat} (h : small x = true) : D.mul x x = some (fmul x x) ∧ fin (fmul x x) ∧ ab (fv (fmul x x)) ≤ pw 840 ∧ fmul x x < 18446744073709551616 ∧ sg (fmul x x) = false := by
  obtain ⟨hf, hb⟩ := small_bd h
  have m := mul_bd (B := pw 840) hf hf (by rw [show pw 840 = pw 420 * pw 420 from by rw [← pw_add]; rfl]; exact sq_le (ab_nonneg _) hb) (rep_pw1 (by decide) (by decide))
  exact ⟨m.1, m.2.1, m.2.2.1, m.2.2.2, sq_sg hf⟩
theorem getS_small {f : Fct} (h : f.ok = true) (i j : Int) : small (getS f i j) = true := by
  unfold getS
  split
  · by_cases hp : (atI f.C i j).toNat < f.xs.length
    · exact check_small (C := f.C) (R := f.R) (T := f.T) h hp
    · rw [List.getElem?_eq_none (by omega)]; exact zero_small
  · exact zero_small

theorem div_pos {a b : Nat} (ha : fin a) (hb : fin b) (h0 : rg b ≠ 0) (sa : sg a = false) (sb : sg b = false) :
    D.div a b = some (fdiv a b) ∧ sg (fdiv a b) = false ∧ rg (fdiv a b) ≤ INF ∧ fdiv a b < 18446744073709551616 ∧ IsRnd (fv a / fv b) (rg (fdiv a b)) := by
  obtain ⟨d, e, hd⟩ := div_spec ha hb h0
  have hs : fdiv a b = D.word false d := by unfold fdiv; rw [e, sa, sb]; rfl
  rw [hs]
  rw [ab_of (fv_nonneg sa), ab_of (fv_nonneg sb)] at hd
  refine ⟨by rw [e, sa, sb]; rfl, sg_word _ _ hd.lt63, by rw [rg_word _ _ hd.lt63]; exact hd.le, word_lt64 _ _ hd.lt63, by rw [rg_word _ _ hd.lt63]; exact hd⟩
theorem fv_pos_lt {b : Nat} (sb : sg b = false) (h0 : rg b ≠ 0) : 0 < fv b := by
  rw [← ab_of (fv_nonneg sb)]
  have h1 := pw_pos (-1074)
  have h2 := pos_ge h0
  grind
theorem IsRnd.one : IsRnd 1 oneF := by
  have h := IsRnd.exact (r := oneF) (by decide)
  have e : (rm oneF : Rat) * pw (-1074) = 1 := by
    have := ab_fv oneF
    rw [fvOne, rg_one] at this
    rw [← this]; decide +kernel
  rwa [e] at h
theorem fv_le_rg {a b : Nat} (sa : sg a = false) (sb : sg b = false) (h : rg a ≤ rg b) : fv a ≤ fv b := by
  rw [fv_pos sa, fv_pos sb]; exact unit_le.2 (rm_mono h)
/-- A quotient of what is not greater is not above 1. -/
theorem div_one {a b : Nat} (ha : fin a) (hb : fin b) (h0 : rg b ≠ 0) (sa : sg a = false) (sb : sg b = false) (h : rg a ≤ rg b) : rg (fdiv a b) ≤ oneF := by
  refine (div_pos ha hb h0 sa sb).2.2.2.2.mono IsRnd.one ?_
  have hp := fv_pos_lt sb h0
  exact div_le_of hp (by rw [Rat.one_mul]; exact fv_le_rg sa sb h)
/-- A quotient by what is not below 1 is not greater. -/
theorem div_less {a b : Nat} (ha : fin a) (hb : fin b) (sa : sg a = false) (sb : sg b = false) (h : oneF ≤ rg b) : rg (fdiv a b) ≤ rg a := by
  have h0 : rg b ≠ 0 := by rw [oneF_eq] at h; omega
  refine (div_pos ha hb h0 sa sb).2.2.2.2.mono (exact_rg ha) ?_
  rw [← fv_pos sa]
  have hp := fv_pos_lt sb h0
  have h1 : (1 : Rat) ≤ fv b := by rw [← fvOne]; exact fv_le_rg sg_one sb (by rw [rg_one]; exact h)
  refine div_le_of hp ?_
  have h2 := Rat.mul_le_mul_of_nonneg_left h1 (fv_nonneg sa)
  rwa [Rat.mul_one] at h2
theorem div_by_one {a : Nat} (ha : fin a) (sa : sg a = false) : rg (fdiv a oneF) = rg a := by
  have h := (div_pos ha fin_one (by decide) sa sg_one).2.2.2.2
  rw [fvOne, Rat.div_def, show (1 : Rat)⁻¹ = 1 from by decide +kernel, Rat.mul_one, fv_pos sa] at h
  exact h.unique (exact_rg ha)
/-- What 1 is above what is not above it. -/
theorem one_less {s : Nat} (ss : sg s = false) (h : rg s ≤ oneF) : D.sub oneF s = some (fsub oneF s) ∧ sg (fsub oneF s) = false ∧ rg (fsub oneF s) ≤ oneF ∧ fsub oneF s < 18446744073709551616 ∧ fin (fsub oneF s) := by
  have hI := INF_eq
  have h1 := oneF_eq
  have hs : fin s := by unfold fin; omega
  have h2 : fv s ≤ 1 := by rw [← fvOne]; exact fv_le_rg ss sg_one (by rw [rg_one]; exact h)
  have h3 := fv_nonneg ss
  obtain ⟨d, e, hd⟩ := sub_spec fin_one hs
  rw [fvOne, ab_of (by grind)] at hd
  have hsg : sumSg (sg oneF) (!sg s) (fv oneF - fv s) = false := by
    unfold sumSg
    rw [fvOne, sg_one, ss]
    split
    · rfl
    · rw [decide_eq_false_iff_not]; grind
  rw [hsg] at e
  have hle : d ≤ oneF := hd.mono IsRnd.one (by grind)
  have hf : fsub oneF s = D.word false d := by unfold fsub; rw [e]; rfl
  rw [hf]
  refine ⟨e, sg_word _ _ hd.lt63, by rw [rg_word _ _ hd.lt63]; exact hle, word_lt64 _ _ hd.lt63, fin_word (by omega)⟩

def stT (f : Fct) (i : Nat) : Nat := fmul (getS f (i : Int) f.C) (getS f (i : Int) f.C)
def stTot (f : Fct) : Nat := sumT (stT f) (f.C + 1).toNat
def stRest (f : Fct) : Nat := stT f f.C.toNat
def stVar (f : Fct) : Nat := fdiv (stRest f) (Go.floatOfInt .f64 (f.R - f.C))
def stFit (f : Fct) : Nat := if rg (stTot f) = 0 then 0 else fsub oneF (fdiv (stRest f) (stTot f))
def stE (f : Fct) : Int := if f.ok = false then 1 else if f.R - f.C < 1 then 5 else 0

theorem stT_bd {f : Fct} (h : f.ok = true) (i : Nat) : fin (stT f i) ∧ ab (fv (stT f i)) ≤ pw 840 ∧ sg (stT f i) = false :=
  ⟨(sq_bd (getS_small h _ _)).2.1, (sq_bd (getS_small h _ _)).2.2.1, (sq_bd (getS_small h _ _)).2.2.2.2⟩
theorem stSum {f : Fct} (h : f.ok = true) {k : Nat} (hk : k ≤ 100) : D.add (sumT (stT f) k) (stT f k) = some (sumT (stT f) (k + 1)) ∧ fin (sumT (stT f) k) ∧ sumT (stT f) k < 18446744073709551616 ∧ sg (sumT (stT f) k) = false :=
  ⟨sumT_add (E := 840) (by decide) (by decide) (by omega) (fun i _ => ⟨(stT_bd h i).1, (stT_bd h i).2.1⟩), (sumT_bd (E := 840) (by decide) (by decide) k (by omega) (fun i _ => ⟨(stT_bd h i).1, (stT_bd h i).2.1⟩)).1,
    (sumT_bd (E := 840) (by decide) (by decide) k (by omega) (fun i _ => ⟨(stT_bd h i).1, (stT_bd h i).2.1⟩)).2.2, sumT_sg (E := 840) (by decide) (by decide) k (by omega) (fun i _ => stT_bd h i)⟩
theorem ofInt_pos {n : Int} (h1 : 1 ≤ n) (h2 : n ≤ 1000) : fin (Go.floatOfInt .f64 n) ∧ sg (Go.floatOfInt .f64 n) = false ∧ oneF ≤ rg (Go.floatOfInt .f64 n) ∧ (n = 1 → Go.floatOfInt .f64 n = oneF) := by
  obtain ⟨M, rfl⟩ : ∃ M : Nat, n = M := ⟨n.toNat, by omega⟩
  obtain ⟨r, hr, he, hv⟩ := ofInt_whole (M := M) (by omega)
  have hI := INF_eq
  rw [he]
  have hrg : rg r = r := by unfold rg; omega
  have h3 : sg r = false := by unfold sg; rw [Nat.div_eq_of_lt (by omega)]; rfl
  refine ⟨by unfold fin; omega, h3, ?_, fun h => ?_⟩
  · rw [hrg]
    have h4 := IsRnd.exact hr
    rw [hv] at h4
    exact IsRnd.one.mono h4 (by have : (1 : Nat) ≤ M := by omega
                                have := cast_le.2 this
                                exact this)
  · have h4 := IsRnd.exact hr
    rw [hv] at h4
    have hM : M = 1 := by omega
    subst hM
    exact h4.unique IsRnd.one

theorem stRest_tot {f : Fct} (h : f.ok = true) : rg (stRest f) ≤ rg (stTot f) := by
  have hc := ok_len h
  exact sumT_ge (E := 840) (by decide) (by decide) (f.C + 1).toNat (by omega) (fun i _ => stT_bd h i) f.C.toNat (by omega)
/-- All that the numbers of a factor are. -/
theorem st_facts {f : Fct} (h : f.ok = true) (hf : 1 ≤ f.R - f.C) :
    D.div (stRest f) (Go.floatOfInt .f64 (f.R - f.C)) = some (stVar f) ∧ (rg (stTot f) ≠ 0 → D.div (stRest f) (stTot f) = some (fdiv (stRest f) (stTot f)) ∧ D.sub oneF (fdiv (stRest f) (stTot f)) = some (stFit f)) ∧
    stRest f < 18446744073709551616 ∧ stTot f < 18446744073709551616 ∧ stVar f < 18446744073709551616 ∧ stFit f < 18446744073709551616 ∧
    sg (stRest f) = false ∧ sg (stTot f) = false ∧ sg (stVar f) = false ∧ sg (stFit f) = false ∧ fin (stRest f) ∧ fin (stTot f) ∧ rg (stVar f) ≤ rg (stRest f) ∧ rg (stFit f) ≤ oneF ∧ (f.R - f.C = 1 → rg (stVar f) = rg (stRest f)) := by
  have hc := ok_len h
  have hk := ofInt_pos hf (by omega)
  have hr := stT_bd h f.C.toNat
  have hr64 := (sq_bd (getS_small h (f.C.toNat : Int) f.C)).2.2.2.1
  have ht := stSum h (k := (f.C + 1).toNat) (by omega)
  have h0 : rg (Go.floatOfInt .f64 (f.R - f.C)) ≠ 0 := by have := oneF_eq; omega
  have hv := div_pos hr.1 hk.1 h0 hr.2.2 hk.2.1
  have hle := stRest_tot h
  have hdl := div_less hr.1 hk.1 hr.2.2 hk.2.1 hk.2.2.1
  have hone : f.R - f.C = 1 → rg (stVar f) = rg (stRest f) := fun e => by
    unfold stVar; rw [hk.2.2.2 e]; exact div_by_one hr.1 hr.2.2
  by_cases hz : rg (stTot f) = 0
  · have e : stFit f = 0 := by unfold stFit; rw [if_pos hz]
    rw [e]
    exact ⟨hv.1, fun h => absurd hz h, hr64, ht.2.2.1, hv.2.2.2.1, by decide, hr.2.2, ht.2.2.2, hv.2.1, by decide, hr.1, ht.2.1, hdl, by decide, hone⟩
  · have e : stFit f = fsub oneF (fdiv (stRest f) (stTot f)) := by unfold stFit; rw [if_neg hz]
    have hd := div_pos hr.1 ht.2.1 hz hr.2.2 ht.2.2.2
    have hl := div_one hr.1 ht.2.1 hz hr.2.2 ht.2.2.2 hle
    have hm := one_less hd.2.1 hl
    rw [e]
    exact ⟨hv.1, fun _ => ⟨hd.1, hm.1⟩, hr64, ht.2.2.1, hv.2.2.2.1, hm.2.2.2.1, hr.2.2, ht.2.2.2, hv.2.1, hm.2.1, hr.1, ht.2.1, hdl, hm.2.2.1, hone⟩
end Lev
