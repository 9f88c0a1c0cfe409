/- Plain: StatsBest: what any answers leave over is not below what the best ones leave; noughts as answers leave the total. -/
import Derived.Test.YtigacobphgeeaaaVf9
set_option linter.unusedVariables false
namespace Lev
open Ieee
theorem rg_winf (s : Bool) : rg (D.write (.infinity s)) = INF := by cases s <;> decide
theorem add_alt {a b : Nat} (h : ¬ (fin a ∧ fin b)) : D.add a b = none ∨ ∃ s, D.add a b = some (D.write (.infinity s)) := by
  have hI := INF_eq
  by_cases ha : INF < rg a
  · exact .inl (add_nan_l ha b)
  by_cases hb : INF < rg b
  · exact .inl (add_nan_r hb a)
  by_cases ha2 : rg a = INF
  · by_cases hb2 : rg b = INF
    · unfold Format.add
      rw [read_inf ha2, read_inf hb2]
      by_cases hs : sg a = sg b
      · right; exact ⟨sg a, by show ((if sg a = sg b then some (Datum.infinity (sg a)) else none).map D.write) = _; rw [if_pos hs]; rfl⟩
      · left; show ((if sg a = sg b then some (Datum.infinity (sg a)) else none).map D.write) = _; rw [if_neg hs]; rfl
    · obtain ⟨m, i, h1, _⟩ := read_fin (b := b) (by unfold fin; omega)
      right
      refine ⟨sg a, ?_⟩
      unfold Format.add
      rw [read_inf ha2, h1]; rfl
  · have fa : fin a := by unfold fin; omega
    have hb2 : rg b = INF := by
      by_cases h3 : rg b = INF
      · exact h3
      · exact absurd ⟨fa, by unfold fin; omega⟩ h
    obtain ⟨m, i, h1, _⟩ := read_fin fa
    right
    refine ⟨sg b, ?_⟩
    unfold Format.add
    rw [read_inf hb2, h1]; rfl
theorem sq_alt {d : Nat} (h : ¬ fin d) : D.mul d d = none ∨ ∃ s, D.mul d d = some (D.write (.infinity s)) := by
  have hI := INF_eq
  by_cases ha : INF < rg d
  · exact .inl (mul_nan_l ha d)
  · right
    refine ⟨sg d ^^ sg d, ?_⟩
    unfold Format.mul
    rw [read_inf (b := d) (by unfold fin at h; omega)]; rfl
theorem arS_alt {op : Go.BinOp} {a b : Nat} (h : Go.floatBits op .f64 a b = none ∨ ∃ s, Go.floatBits op .f64 a b = some (D.write (.infinity s))) : ¬ fin (arS op a b) := by
  unfold arS fin
  rcases h with h | ⟨s, h⟩
  · rw [h]; decide
  · rw [h]
    show ¬ rg (cn _) < INF
    rw [cn_num (by rw [rg_winf]; omega), rg_winf]; omega
theorem add_fin {a b : Nat} (h : fin (arS .add a b)) : fin a ∧ fin b := by
  by_cases hc : fin a ∧ fin b
  · exact hc
  · exact absurd h (arS_alt (op := .add) (add_alt hc))
theorem sq_fin {d : Nat} (h : fin (arS .mul d d)) : fin d := by
  by_cases hc : fin d
  · exact hc
  · exact absurd h (arS_alt (op := .mul) (sq_alt hc))
theorem arS_fadd {a b : Nat} (ha : fin a) (hb : fin b) : arS .add a b = fadd a b := by
  obtain ⟨r, m1, m2⟩ := add_spec ha hb
  unfold arS fadd
  rw [show Go.floatBits .add .f64 a b = some _ from m1, m1]
  exact cn_num (by rw [rg_word _ _ m2.lt63]; have := m2.le; omega)
theorem arS_fmul {a b : Nat} (ha : fin a) (hb : fin b) : arS .mul a b = fmul a b := by
  obtain ⟨r, m1, m2⟩ := mul_spec ha hb
  unfold arS fmul
  rw [show Go.floatBits .mul .f64 a b = some _ from m1, m1]
  exact cn_num (by rw [rg_word _ _ m2.lt63]; have := m2.le; omega)
theorem msS_sg (f : Fct) (xs : List Nat) : ∀ k, fin (msS f xs k) → sg (msS f xs k) = false
  | 0, _ => by show sg 0 = false; decide
  | k + 1, h => by
    obtain ⟨h1, h2⟩ := add_fin h
    have h3 := sq_fin h2
    have e1 := arS_fmul h3 h3
    show sg (arS .add (msS f xs k) (arS .mul (msR f xs k) (msR f xs k))) = false
    rw [arS_fadd h1 h2]
    exact fadd_sg h1 h2 (msS_sg f xs k h1) (by rw [e1]; exact sq_sg h3)
theorem fle_nn {a b : Nat} (ha : sg a = false) (hb : sg b = false) (fb : fin b) (h : rg a ≤ rg b) : fle a b = true := by
  unfold fle
  unfold fin at fb
  rw [decide_eq_true_eq]
  refine ⟨by omega, by omega, ?_⟩
  unfold ord; rw [ha, hb]; simpa using h
theorem best_ge {f : Fct} {xs : List Nat} (hok : f.ok = true) (he : msE f xs = 0) : fle (stRest f) (msV f xs) = true := by
  have hT : fin (msT f xs) := by
    unfold msE at he
    unfold fin
    split at he
    · exact absurd he (by decide)
    · split at he
      · exact absurd he (by decide)
      · omega
  have hv : msV f xs = msT f xs := by unfold msV; rw [if_pos he]
  obtain ⟨h1, h2⟩ := add_fin (a := msS f xs f.C.toNat) (b := stRest f) hT
  have hs := msS_sg f xs _ h1
  have hr := (stT_bd hok f.C.toNat).2.2
  have e : msT f xs = fadd (msS f xs f.C.toNat) (stRest f) := arS_fadd h1 h2
  have hg := (fadd_ge h1 h2 hs hr).2
  have hsg := fadd_sg h1 h2 hs hr
  rw [hv]
  rw [e] at hT ⊢
  exact fle_nn hr hsg hT hg

def noughts (f : Fct) : List Nat := List.replicate f.C.toNat 0
theorem noughts_get (f : Fct) (i : Nat) : (noughts f)[i]?.getD 0 = 0 := by
  unfold noughts
  by_cases h : i < f.C.toNat
  · rw [List.getElem?_replicate_of_lt h]; rfl
  · rw [List.getElem?_eq_none (by rw [List.length_replicate]; omega)]; rfl
theorem fv_nought {x : Nat} (h : rg x = 0) : fv x = 0 := by
  unfold fv
  rw [h, show rm 0 = 0 from by decide, show ((0 : Nat) : Rat) = 0 from rfl, Rat.zero_mul]
  unfold sv
  cases sg x
  · rfl
  · decide +kernel
theorem sub_nought {d g : Nat} (hd : fin d) (hg : fin g) : fin (arS .sub d (arS .mul g 0)) ∧ rg (arS .sub d (arS .mul g 0)) = rg d := by
  obtain ⟨r, m1, m2⟩ := mul_spec hg fin_zero
  have z0 : fv 0 = 0 := fv_nought (by decide)
  rw [z0, Rat.mul_zero, show ab (0 : Rat) = 0 from by decide +kernel] at m2
  have hr := m2.zero_eq
  subst hr
  have e1 : arS .mul g 0 = D.word (sg g ^^ sg 0) 0 := by
    unfold arS
    rw [show Go.floatBits .mul .f64 g 0 = some _ from m1]
    exact cn_num (by rw [rg_word _ _ (by decide)]; decide)
  rw [e1]
  have hf : fin (D.word (sg g ^^ sg 0) 0) := fin_word (by decide)
  obtain ⟨q, n1, n2⟩ := sub_spec hd hf
  rw [fv_nought (x := D.word (sg g ^^ sg 0) 0) (rg_word _ _ (by decide)), Rat.sub_eq_add_neg, Rat.neg_zero, Rat.add_zero, ab_fv] at n2
  have hq := n2.unique (exact_rg hd)
  have e2 : rg (arS .sub d (D.word (sg g ^^ sg 0) 0)) = q := by
    unfold arS
    rw [show Go.floatBits .sub .f64 d (D.word (sg g ^^ sg 0) 0) = some _ from n1]
    show rg (cn _) = q
    rw [cn_num (by rw [rg_word _ _ n2.lt63]; have := n2.le; omega), rg_word _ _ n2.lt63]
  unfold fin at hd ⊢
  exact ⟨by omega, by omega⟩
theorem sq_rg {d e : Nat} (hd : fin d) (he : fin e) (h : rg d = rg e) : fmul d d = fmul e e := by
  obtain ⟨r, m1, m2⟩ := mul_spec hd hd
  obtain ⟨q, n1, n2⟩ := mul_spec he he
  have hv : fv d * fv d = fv e * fv e := by
    unfold fv
    rw [h]
    unfold sv
    cases sg d <;> cases sg e <;> grind
  rw [hv] at m2
  have hq := m2.unique n2
  unfold fmul
  rw [m1, n1, hq]
  simp
theorem msD_nought {f : Fct} (hok : f.ok = true) (i : Nat) : ∀ j, fin (msD f (noughts f) i j) ∧ rg (msD f (noughts f) i j) = rg (getS f (i : Int) f.C)
  | 0 => ⟨small_fin (getS_small hok _ _), rfl⟩
  | j + 1 => by
    obtain ⟨h1, h2⟩ := msD_nought hok i j
    show fin (arS .sub (msD f (noughts f) i j) (arS .mul (getS f (i : Int) ((i + j : Nat) : Int)) ((noughts f)[i + j]?.getD 0))) ∧ rg (arS .sub (msD f (noughts f) i j) (arS .mul (getS f (i : Int) ((i + j : Nat) : Int)) ((noughts f)[i + j]?.getD 0))) = _
    rw [noughts_get]
    obtain ⟨h3, h4⟩ := sub_nought h1 (small_fin (getS_small hok (i : Int) ((i + j : Nat) : Int)))
    exact ⟨h3, h4.trans h2⟩
theorem msS_nought {f : Fct} (hok : f.ok = true) : ∀ k, k ≤ 99 → msS f (noughts f) k = sumT (stT f) k
  | 0, _ => rfl
  | k + 1, hk => by
    obtain ⟨h1, h2⟩ := msD_nought hok k (f.C.toNat - k)
    have e1 : arS .mul (msR f (noughts f) k) (msR f (noughts f) k) = stT f k := by
      unfold msR
      rw [arS_fmul h1 h1, sq_rg h1 (small_fin (getS_small hok (k : Int) f.C)) h2]; rfl
    show arS .add (msS f (noughts f) k) (arS .mul (msR f (noughts f) k) (msR f (noughts f) k)) = _
    rw [e1, msS_nought hok k (by omega)]
    exact arS_fadd (stSum hok (by omega)).2.1 (stT_bd hok k).1
theorem msT_nought {f : Fct} (hok : f.ok = true) : msT f (noughts f) = stTot f := by
  have hc := ok_len hok
  unfold msT stTot
  rw [msS_nought hok _ (by omega), show (f.C + 1).toNat = f.C.toNat + 1 from by omega]
  exact arS_fadd (stSum hok (by omega)).2.1 (stT_bd hok _).1
theorem ms_nought {f : Fct} (hok : f.ok = true) : msE f (noughts f) = 0 ∧ msV f (noughts f) = stTot f := by
  have hc := ok_len hok
  have hf := (stSum hok (k := (f.C + 1).toNat) (by omega)).2.1
  have e : msE f (noughts f) = 0 := by
    unfold msE
    rw [if_neg (by rw [hok]; unfold noughts; rw [List.length_replicate]; simp; omega), if_neg (by rw [msT_nought hok]; unfold fin at hf; unfold stTot; omega)]
  exact ⟨e, by unfold msV; rw [if_pos e, msT_nought hok]⟩
end Lev
