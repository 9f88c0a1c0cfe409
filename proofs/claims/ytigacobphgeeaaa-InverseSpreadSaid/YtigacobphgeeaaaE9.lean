/- Plain texts, laid as one. -/
import Derived.Test.YtigacobphgeeaaaT9
import Derived.Test.YtigacobphgeeaaaS9
/- Plain: how far what is rounded is from what was rounded. -/
set_option linter.unusedVariables false
namespace Lev
open Ieee

theorem gap_rel (r : Nat) : ∃ g, rm (r + 1) = rm r + g ∧ (g = 1 ∨ 4503599627370496 * g ≤ rm r) := by
  obtain ⟨e, k, hr, h1, h2⟩ := rung_seg r
  have a1 := rm_seg e k h1 (Nat.le_of_lt h2)
  have a2 := rm_succ_seg e k h1 h2
  rw [← hr] at a1 a2
  refine ⟨2 ^ e, by rw [a1, a2, Nat.add_mul, Nat.one_mul], ?_⟩
  rcases h1 with h1 | h1
  · subst h1; exact .inl rfl
  · right; rw [a1]; exact Nat.mul_le_mul_right _ h1
theorem ab_le_iff {x B : Rat} : ab x ≤ B ↔ -B ≤ x ∧ x ≤ B := by
  unfold ab; split <;> constructor <;> intro h <;> (try constructor) <;> grind
theorem pw53_mul (x : Rat) : pw (-53) * (9007199254740992 * x) = x := by
  have h : pw (-53) * 9007199254740992 = 1 := by
    rw [show (9007199254740992 : Rat) = pw 53 from by rw [pw53]; rfl, ← pw_add]; exact pw_zero
  rw [← Rat.mul_assoc, h, Rat.one_mul]
theorem le_u {a x : Rat} (h : 9007199254740992 * a ≤ x) : a ≤ pw (-53) * x := by
  have := Rat.mul_le_mul_of_nonneg_left h (Rat.le_of_lt (pw_pos (-53)))
  rwa [pw53_mul] at this
theorem rnd_err {x : Rat} {r : Nat} (h : IsRnd x r) (hr : r < INF) (h0 : 0 ≤ x) :
    ab ((rm r : Rat) * pw (-1074) - x) ≤ pw (-53) * x ∨ ab ((rm r : Rat) * pw (-1074) - x) ≤ pw (-1075) := by
  obtain ⟨_, h1, h2⟩ := h
  obtain ⟨h1, _⟩ := h1 hr
  have hU := pw_pos (-1074)
  have hH : pw (-1074) = 2 * pw (-1075) := half_unit
  obtain ⟨g, hg, hg2⟩ := gap_rel r
  unfold mid2 at h1
  rw [hg, show rm r + (rm r + g) = 2 * rm r + g from by omega, Rat.natCast_add, Rat.natCast_mul, two_cast, Rat.add_mul, Rat.mul_assoc] at h1
  generalize hR : (rm r : Rat) * pw (-1074) = R at *
  have key : ∀ (g : Nat) (s : Nat) (d : Rat), 4503599627370496 * g ≤ s → 2 * d ≤ (g : Rat) * pw (-1074) → (s : Rat) * pw (-1074) ≤ x → d ≤ pw (-53) * x := by
    intro g s d h3 h4 h5
    apply le_u
    have h6 : (4503599627370496 : Rat) * (g : Rat) ≤ (s : Rat) := by
      have := cast_le.2 h3; rwa [Rat.natCast_mul] at this
    have h7 := Rat.mul_le_mul_of_nonneg_right h6 (Rat.le_of_lt hU)
    rw [Rat.mul_assoc] at h7
    grind
  by_cases hx : R ≤ x
  · have e : ab (R - x) = x - R := by unfold ab; split <;> grind
    rw [e]
    rcases hg2 with hg2 | hg2
    · right; subst hg2
      rw [show ((1 : Nat) : Rat) = 1 from rfl] at h1
      grind
    · left
      exact key g (rm r) _ hg2 (by grind) (by rw [hR]; exact hx)
  · have e : ab (R - x) = R - x := by unfold ab; split <;> grind
    rw [e]
    have hr0 : 0 < r := by
      rcases Nat.eq_zero_or_pos r with h3 | h3
      · exfalso; subst h3
        rw [rm_zero, show ((0 : Nat) : Rat) = 0 from rfl, Rat.zero_mul] at hR
        grind
      · exact h3
    obtain ⟨h2, _⟩ := h2 hr0
    obtain ⟨g', hg', hg2'⟩ := gap_rel (r - 1)
    rw [show r - 1 + 1 = r from by omega] at hg'
    unfold mid2 at h2
    rw [show r - 1 + 1 = r from by omega, hg', show rm (r - 1) + (rm (r - 1) + g') = 2 * rm (r - 1) + g' from by omega, Rat.natCast_add, Rat.natCast_mul, two_cast, Rat.add_mul, Rat.mul_assoc] at h2
    have hR2 : R = (rm (r - 1) : Rat) * pw (-1074) + (g' : Rat) * pw (-1074) := by rw [← hR, hg', Rat.natCast_add, Rat.add_mul]
    have hgp : (0 : Rat) ≤ (g' : Rat) * pw (-1074) := Rat.mul_nonneg Rat.natCast_nonneg (Rat.le_of_lt hU)
    rcases hg2' with hg2' | hg2'
    · right; subst hg2'
      rw [show ((1 : Nat) : Rat) = 1 from rfl] at h2 hR2
      grind
    · left
      exact key g' (rm (r - 1)) _ hg2' (by grind) (by grind)
theorem pw_1075 : pw (-1075) = pw (-53) * pw (-1022) := by rw [← pw_add]; rfl
theorem rnd_err_any {x : Rat} {r : Nat} (h : IsRnd x r) (hr : r < INF) (h0 : 0 ≤ x) : ab ((rm r : Rat) * pw (-1074) - x) ≤ pw (-53) * x + pw (-1075) := by
  have h1 := Rat.mul_nonneg (Rat.le_of_lt (pw_pos (-53))) h0
  have h2 := pw_pos (-1075)
  rcases rnd_err h hr h0 with h3 | h3 <;> grind
theorem rnd_err_big {x : Rat} {r : Nat} (h : IsRnd x r) (hr : r < INF) (h0 : pw (-1022) ≤ x) : ab ((rm r : Rat) * pw (-1074) - x) ≤ pw (-53) * x := by
  have hp := pw_pos (-1022)
  rcases rnd_err h hr (by grind) with h3 | h3
  · exact h3
  · rw [pw_1075] at h3
    exact Rat.le_trans h3 (Rat.mul_le_mul_of_nonneg_left h0 (Rat.le_of_lt (pw_pos _)))
theorem rnd_err_lat {x : Rat} {r k : Nat} (h : IsRnd x r) (hr : r < INF) (hx : x = (k : Rat) * pw (-1074)) : ab ((rm r : Rat) * pw (-1074) - x) ≤ pw (-53) * x := by
  have h0 : 0 ≤ x := by rw [hx]; exact Rat.mul_nonneg Rat.natCast_nonneg (Rat.le_of_lt (pw_pos _))
  rcases rnd_err h hr h0 with h3 | h3
  · exact h3
  · have hn := Rat.mul_nonneg (Rat.le_of_lt (pw_pos (-53))) h0
    have hu := pw_pos (-1074)
    have hH : pw (-1074) = 2 * pw (-1075) := half_unit
    have hq := pw_pos (-1075)
    have e : rm r = k := by
      rcases Nat.lt_trichotomy (rm r) k with h4 | h4 | h4
      · exfalso
        have h5 : ((rm r + 1 : Nat) : Rat) * pw (-1074) ≤ (k : Rat) * pw (-1074) := unit_le.2 h4
        rw [Rat.natCast_add, Rat.add_mul, show ((1 : Nat) : Rat) = 1 from rfl, Rat.one_mul, ← hx] at h5
        have := ab_le_iff.1 h3
        grind
      · exact h4
      · exfalso
        have h5 : ((k + 1 : Nat) : Rat) * pw (-1074) ≤ (rm r : Rat) * pw (-1074) := unit_le.2 h4
        rw [Rat.natCast_add, Rat.add_mul, show ((1 : Nat) : Rat) = 1 from rfl, Rat.one_mul, ← hx] at h5
        have := ab_le_iff.1 h3
        grind
    rw [e, ← hx, show x - x = 0 from by grind]
    rw [show ab 0 = 0 from by unfold ab; rw [if_neg (by decide)]]
    exact hn
/-- Of a word with its sign. -/
theorem fv_word {s : Bool} {r : Nat} (h : r < INF) : fv (D.word s r) = sv s ((rm r : Rat) * pw (-1074)) := by
  have := INF_eq
  unfold fv; rw [sg_word _ _ (by omega), rg_word _ _ (by omega)]
theorem sv_sub (s : Bool) (x y : Rat) : sv s x - sv s y = sv s (x - y) := by cases s <;> simp only [sv, if_true, Bool.false_eq_true, if_false] <;> grind
theorem ab_sv' (s : Bool) (x : Rat) : ab (sv s x) = ab x := by cases s <;> simp only [sv, if_true, Bool.false_eq_true, if_false, Lev.ab_neg]
theorem sv_ab (x : Rat) : sv (decide (x < 0)) (ab x) = x := by
  unfold ab
  split
  · rw [decide_eq_true (by assumption), sv_true]; grind
  · rw [decide_eq_false (by assumption), sv_false]
theorem fv_sv (b : Nat) : sv (sg b) (ab (fv b)) = fv b := by rw [ab_fv]; rfl
theorem sum_sg_ab (s t : Bool) (z : Rat) (R : Rat) (h0 : z = 0 → R = 0) : ab (sv (sumSg s t z) R - z) = ab (R - ab z) := by
  by_cases hz : z = 0
  · have hR := h0 hz
    subst hz hR
    rw [show ab (0 : Rat) = 0 from by unfold ab; rw [if_neg (by decide)], show (0 : Rat) - 0 = 0 from by grind]
    cases sumSg s t 0 <;> simp only [sv, if_true, Bool.false_eq_true, if_false] <;> decide +kernel
  · have e : sumSg s t z = decide (z < 0) := by unfold sumSg; rw [if_neg hz]
    rw [e]
    conv => lhs; rw [← sv_ab z]
    rw [sv_ab]
    conv => lhs; arg 1; arg 2; rw [← sv_ab z]
    rw [sv_sub, ab_sv']
/-- A float is a whole number of units. -/
theorem fv_unit (b : Nat) : ∃ k : Int, fv b = (k : Rat) * pw (-1074) := by
  unfold fv
  cases sg b
  · exact ⟨(rm (rg b) : Int), by rw [sv_false]; rfl⟩
  · exact ⟨-(rm (rg b) : Int), by rw [sv_true, Rat.intCast_neg, show (((rm (rg b) : Nat) : Int) : Rat) = ((rm (rg b) : Nat) : Rat) from rfl]; grind⟩
theorem ab_unit {z : Rat} {k : Int} (h : z = (k : Rat) * pw (-1074)) : ∃ n : Nat, ab z = (n : Rat) * pw (-1074) := by
  refine ⟨k.natAbs, ?_⟩
  rw [h, ab_mul, ab_pw]
  congr 1
  rw [natAbs_cast]; unfold ab
  have : ((k : Rat) < 0) ↔ k < 0 := by
    rw [show (0 : Rat) = ((0 : Int) : Rat) from rfl]; exact Rat.intCast_lt_intCast
  by_cases h1 : k < 0
  · rw [if_pos h1, if_pos (this.2 h1)]
  · rw [if_neg h1, if_neg (fun h => h1 (this.1 h))]
theorem fadd_word {a b : Nat} (ha : fin a) (hb : fin b) (hf : fin (fadd a b)) : ∃ r, r < INF ∧ fadd a b = D.word (sumSg (sg a) (sg b) (fv a + fv b)) r ∧ IsRnd (ab (fv a + fv b)) r := by
  obtain ⟨r, h1, h2⟩ := add_spec ha hb
  have e : fadd a b = D.word (sumSg (sg a) (sg b) (fv a + fv b)) r := by unfold fadd; rw [h1]; rfl
  refine ⟨r, ?_, e, h2⟩
  have h3 := h2.lt63
  rw [e] at hf; unfold fin at hf; rwa [rg_word _ _ h3] at hf
theorem fadd_err {a b : Nat} (ha : fin a) (hb : fin b) (hf : fin (fadd a b)) : ab (fv (fadd a b) - (fv a + fv b)) ≤ pw (-53) * ab (fv a + fv b) := by
  obtain ⟨r, hr, e, h⟩ := fadd_word ha hb hf
  obtain ⟨k1, e1⟩ := fv_unit a
  obtain ⟨k2, e2⟩ := fv_unit b
  obtain ⟨n, hn⟩ := ab_unit (z := fv a + fv b) (k := k1 + k2) (by rw [e1, e2, Rat.intCast_add, Rat.add_mul])
  rw [e, fv_word hr, sum_sg_ab _ _ _ _ (fun h0 => ?_)]
  · exact rnd_err_lat h hr hn
  · rw [h0, show ab (0 : Rat) = 0 from by unfold ab; rw [if_neg (by decide)]] at h
    rw [h.zero_eq, rm_zero, show ((0 : Nat) : Rat) = 0 from rfl, Rat.zero_mul]
theorem fmul_word {a b : Nat} (ha : fin a) (hb : fin b) (hf : fin (fmul a b)) : ∃ r, r < INF ∧ fmul a b = D.word (sg a ^^ sg b) r ∧ IsRnd (ab (fv a * fv b)) r := by
  obtain ⟨r, h1, h2⟩ := mul_spec ha hb
  have e : fmul a b = D.word (sg a ^^ sg b) r := by unfold fmul; rw [h1]; rfl
  refine ⟨r, ?_, e, h2⟩
  have h3 := h2.lt63
  rw [e] at hf; unfold fin at hf; rwa [rg_word _ _ h3] at hf
theorem mul_sv (a b : Nat) : fv a * fv b = sv (sg a ^^ sg b) (ab (fv a * fv b)) := by
  rw [ab_mul, ← sv_mul, fv_sv, fv_sv]
theorem fmul_sub {a b r : Nat} (hr : r < INF) (e : fmul a b = D.word (sg a ^^ sg b) r) : ab (fv (fmul a b) - fv a * fv b) = ab ((rm r : Rat) * pw (-1074) - ab (fv a * fv b)) := by
  rw [e, fv_word hr]
  conv => lhs; arg 1; arg 2; rw [mul_sv]
  rw [sv_sub, ab_sv']
theorem fmul_err {a b : Nat} (ha : fin a) (hb : fin b) (hf : fin (fmul a b)) : ab (fv (fmul a b) - fv a * fv b) ≤ pw (-53) * ab (fv a * fv b) + pw (-1075) := by
  obtain ⟨r, hr, e, h⟩ := fmul_word ha hb hf
  rw [fmul_sub hr e]
  exact rnd_err_any h hr (ab_nonneg _)
theorem fmul_err_big {a b : Nat} (ha : fin a) (hb : fin b) (hf : fin (fmul a b)) (h0 : fv a * fv b = 0 ∨ pw (-1022) ≤ ab (fv a * fv b)) : ab (fv (fmul a b) - fv a * fv b) ≤ pw (-53) * ab (fv a * fv b) := by
  obtain ⟨r, hr, e, h⟩ := fmul_word ha hb hf
  rw [fmul_sub hr e]
  rcases h0 with h0 | h0
  · rw [h0, show ab (0 : Rat) = 0 from by unfold ab; rw [if_neg (by decide)]] at h ⊢
    rw [h.zero_eq, rm_zero, show ((0 : Nat) : Rat) = 0 from rfl, Rat.zero_mul]
    decide +kernel
  · exact rnd_err_big h hr h0
end Lev

/- Plain: how far a sum of floats is from the sum without an error. -/
set_option linter.unusedVariables false
namespace Lev
open Ieee

def sumR (t : Nat → Rat) : Nat → Rat
  | 0 => 0
  | k + 1 => sumR t k + t k
theorem sumR_congr {t s : Nat → Rat} : ∀ k : Nat, (∀ i, i < k → t i = s i) → sumR t k = sumR s k
  | 0, _ => rfl
  | k + 1, h => by
    show sumR t k + t k = sumR s k + s k
    rw [sumR_congr k (fun i hi => h i (by omega)), h k (by omega)]
theorem sumR_nonneg {t : Nat → Rat} : ∀ k : Nat, (∀ i, i < k → 0 ≤ t i) → 0 ≤ sumR t k
  | 0, _ => Rat.le_refl
  | k + 1, h => by
    have h1 := sumR_nonneg k (fun i hi => h i (by omega))
    have h2 := h k (by omega)
    show 0 ≤ sumR t k + t k
    grind
theorem ab_sumR (t : Nat → Rat) : ∀ k : Nat, ab (sumR t k) ≤ sumR (fun i => ab (t i)) k
  | 0 => by show ab 0 ≤ 0; rw [show ab (0 : Rat) = 0 from by unfold ab; rw [if_neg (by decide)]]; exact Rat.le_refl
  | k + 1 => by
    have h1 := ab_sumR t k
    have h2 := ab_add (sumR t k) (t k)
    show ab (sumR t k + t k) ≤ sumR (fun i => ab (t i)) k + ab (t k)
    grind
theorem ab_zero : ab 0 = 0 := by unfold ab; rw [if_neg (by decide)]
theorem fv_zero : fv 0 = 0 := by
  have h := ab_fv0
  unfold ab at h
  split at h <;> grind
theorem ab_eq_zero {x : Rat} (h : ab x = 0) : x = 0 := by
  unfold ab at h; split at h <;> grind
theorem fv_rg (x : Nat) : fv (rg x) = ab (fv x) := by
  rw [ab_fv]; unfold fv; rw [sg_rg, rg_rg, sv_false]
theorem fadd_zero {b : Nat} (hb : fin b) (hf : fin (fadd 0 b)) : fv (fadd 0 b) = fv b := by
  obtain ⟨r, hr, e, h⟩ := fadd_word fin_zero hb hf
  have hz : fv 0 + fv b = fv b := by rw [fv_zero]; grind
  have h2 := h
  rw [hz, ab_fv] at h2
  have h3 := h2.unique (IsRnd.exact hb)
  have h4 : ab (fv (fadd 0 b) - (fv 0 + fv b)) = 0 := by
    rw [e, fv_word hr, sum_sg_ab _ _ _ _ (fun h0 => ?_)]
    · rw [hz, ab_fv, h3, show ∀ x : Rat, x - x = 0 from fun x => by grind]; exact ab_zero
    · rw [h0, ab_zero] at h
      rw [h.zero_eq, rm_zero, show ((0 : Nat) : Rat) = 0 from rfl, Rat.zero_mul]
  have := ab_eq_zero h4
  rw [hz] at this
  grind
/-- The unit of the last place, and a little more. -/
def uu : Rat := 1 / 9007199254740992
def vv : Rat := 1 / 9007199254740992 + 1 / 9007199254740992 * (1 / 1099511627776)
theorem uu_eq : pw (-53) = uu := by
  have h : pw (-53) * 9007199254740992 = 1 := by
    rw [show (9007199254740992 : Rat) = pw 53 from by rw [pw53]; rfl, ← pw_add]; exact pw_zero
  unfold uu
  grind
theorem sum_step {u v w η c P T e d p s : Rat} (hu : u = uu) (hv : v = vv) (hw0 : 0 ≤ w) (hw : w ≤ 1 / 2199023255552) (hη : 0 ≤ η) (hc0 : v ≤ c + v) (hc : c + w ≤ 1 / 1099511627776) (hP : 0 ≤ P) (hT : 0 ≤ T) {n : Rat} (hn0 : 0 ≤ n) (hn : n ≤ 1000)
    (he : e ≤ (c + w) * P + 2 * n * η) (hd : d ≤ w * T + η) (hp : p ≤ P + e + T + d) (hs : s ≤ u * p + e + d) : s ≤ (c + v + w) * (P + T) + 2 * (n + 1) * η := by
  have h1 : (u * (c + w) + u) * P ≤ v * P := Rat.mul_le_mul_of_nonneg_right (by subst hu hv; unfold uu vv; grind) hP
  have h2 : (u * w + u + w) * T ≤ (c + v + w) * T := Rat.mul_le_mul_of_nonneg_right (by subst hu hv; unfold uu vv at *; grind) hT
  have h3 : (u * (2 * n + 1)) * η ≤ 1 * η := Rat.mul_le_mul_of_nonneg_right (by subst hu; unfold uu; grind) hη
  have hu0 : 0 ≤ u := by subst hu; unfold uu; grind
  have h4 := Rat.mul_le_mul_of_nonneg_left he hu0
  have h5 := Rat.mul_le_mul_of_nonneg_left hd hu0
  have h6 := Rat.mul_le_mul_of_nonneg_left hp hu0
  grind
theorem sum_err {t : Nat → Nat} {T : Nat → Rat} {w η : Rat} (hw0 : 0 ≤ w) (hw : w ≤ 1 / 2199023255552) (hη : 0 ≤ η) : ∀ k : Nat, k + 1 ≤ 40 → (∀ i, i < k + 1 → fin (t i) ∧ fin (sumT t (i + 1)) ∧ ab (fv (t i) - T i) ≤ w * ab (T i) + η) →
    ab (fv (sumT t (k + 1)) - sumR T (k + 1)) ≤ ((k : Rat) * vv + w) * sumR (fun i => ab (T i)) (k + 1) + 2 * ((k : Rat) + 1) * η
  | 0, _, h => by
    obtain ⟨h1, h2, h3⟩ := h 0 (by omega)
    have e : fv (sumT t 1) = fv (t 0) := fadd_zero h1 h2
    rw [e]
    show ab (fv (t 0) - (0 + T 0)) ≤ (((0 : Nat) : Rat) * vv + w) * (0 + ab (T 0)) + 2 * (((0 : Nat) : Rat) + 1) * η
    rw [show ((0 : Nat) : Rat) = 0 from rfl, show (0 : Rat) + T 0 = T 0 from by grind]
    grind
  | k + 1, hk, h => by
    have ih := sum_err hw0 hw hη k (by omega) (fun i hi => h i (by omega))
    obtain ⟨h1, h2, h3⟩ := h (k + 1) (by omega)
    obtain ⟨_, h4, _⟩ := h k (by omega)
    have h5 : ab (fv (sumT t (k + 1 + 1)) - (fv (sumT t (k + 1)) + fv (t (k + 1)))) ≤ pw (-53) * ab (fv (sumT t (k + 1)) + fv (t (k + 1))) := fadd_err h4 h1 h2
    have hkr : (((k + 1 : Nat) : Nat) : Rat) = (k : Rat) + 1 := by rw [Rat.natCast_add]; rfl
    have hk0 : (0 : Rat) ≤ (k : Rat) := Rat.natCast_nonneg
    have hk1 : (k : Rat) ≤ 38 := by have := cast_le.2 (show k ≤ 38 by omega); exact this
    have hP := sumR_nonneg (t := fun i => ab (T i)) (k + 1) (fun i _ => ab_nonneg _)
    have hT := ab_nonneg (T (k + 1))
    have a1 := ab_sumR T (k + 1)
    have hv0 : vv = 1 / 9007199254740992 + 1 / 9007199254740992 * (1 / 1099511627776) := rfl
    have key := sum_step (u := pw (-53)) (v := vv) (w := w) (η := η) (c := (k : Rat) * vv) (P := sumR (fun i => ab (T i)) (k + 1)) (T := ab (T (k + 1))) (n := (k : Rat) + 1) uu_eq rfl hw0 hw hη
      (by rw [hv0]; grind) (by rw [hv0]; grind) hP hT (by grind) (by grind) ih h3
      (p := ab (fv (sumT t (k + 1)) + fv (t (k + 1)))) (s := ab (fv (sumT t (k + 1 + 1)) - sumR T (k + 1 + 1)))
      (by
        have b1 := ab_add (fv (sumT t (k + 1)) - sumR T (k + 1)) (sumR T (k + 1))
        have b2 := ab_add (fv (t (k + 1)) - T (k + 1)) (T (k + 1))
        have b3 := ab_add (fv (sumT t (k + 1))) (fv (t (k + 1)))
        rw [show fv (sumT t (k + 1)) - sumR T (k + 1) + sumR T (k + 1) = fv (sumT t (k + 1)) from by grind] at b1
        rw [show fv (t (k + 1)) - T (k + 1) + T (k + 1) = fv (t (k + 1)) from by grind] at b2
        grind)
      (by
        have b1 := ab_add (fv (sumT t (k + 1 + 1)) - (fv (sumT t (k + 1)) + fv (t (k + 1)))) ((fv (sumT t (k + 1)) - sumR T (k + 1)) + (fv (t (k + 1)) - T (k + 1)))
        have b2 := ab_add (fv (sumT t (k + 1)) - sumR T (k + 1)) (fv (t (k + 1)) - T (k + 1))
        have e : fv (sumT t (k + 1 + 1)) - (fv (sumT t (k + 1)) + fv (t (k + 1))) + ((fv (sumT t (k + 1)) - sumR T (k + 1)) + (fv (t (k + 1)) - T (k + 1))) = fv (sumT t (k + 1 + 1)) - sumR T (k + 1 + 1) := by
          show _ = fv (sumT t (k + 1 + 1)) - (sumR T (k + 1) + T (k + 1))
          grind
        rw [e] at b1
        grind)
    rw [hkr]
    show _ ≤ (((k : Rat) + 1) * vv + w) * (sumR (fun i => ab (T i)) (k + 1) + ab (T (k + 1))) + 2 * ((k : Rat) + 1 + 1) * η
    rw [show ((k : Rat) + 1) * vv + w = (k : Rat) * vv + vv + w from by grind]
    exact key
end Lev

/- Plain: roots and scaling; the laws KernDots, KernAdds, KernSizes. -/
set_option linter.unusedVariables false
namespace Lev
open Ieee

theorem ldS_exact {b : Nat} {k : Int} (h : rg b ≠ 0) (h1 : -1022 ≤ topS b + k) (h2 : topS b + k ≤ 1023) : fin (ldS b k) ∧ fv (ldS b k) = fv b * pw k := by
  obtain ⟨E, hE⟩ : ∃ E : Nat, (E : Int) = topS b + k + 1023 := ⟨(topS b + k + 1023).toNat, by omega⟩
  have e := ldS_normal (k := k) h (E := E) (by omega) (by omega) hE
  rw [e]
  refine ⟨zfl_fin h (by omega), ?_⟩
  have hr : rg (zfl b E) = E * 4503599627370496 + fracS b := rg_word _ _ (Nat.lt_trans (zfl_lt h (by omega)) (by decide))
  have hs : sg (zfl b E) = sg b := sg_word _ _ (Nat.lt_trans (zfl_lt h (by omega)) (by decide))
  have h3 := zfl_val (b := b) (E := E) h (by omega)
  unfold fv
  rw [hr, hs, h3, show (E : Int) - 1023 - topS b = k from by omega, sv_scale]
  conv => lhs; arg 2; rw [ab_fv]
theorem sqrt_err {s : Nat} (hs : fin s) (hg : sg s = false) (h0 : rg s ≠ 0) :
    0 ≤ fv (sqrtF s) ∧ fv (sqrtF s) * fv (sqrtF s) * ((1 - uu) * (1 - uu)) ≤ fv s ∧ fv s ≤ fv (sqrtF s) * fv (sqrtF s) * ((1 + uu) * (1 + uu)) := by
  obtain ⟨_, hf, _, hsg⟩ := sqrt_ok hs hg
  obtain ⟨r, h1, h2⟩ := sqrt_spec hs hg h0
  have e : sqrtF s = D.word false r := by unfold sqrtF; rw [h1]; rfl
  have hr63 : r < 9223372036854775808 := Nat.lt_of_le_of_lt h2.1 (by decide)
  have hr : r < INF := by rw [e] at hf; unfold fin at hf; rwa [rg_word _ _ hr63] at hf
  obtain ⟨_, h3, h4⟩ := h2
  obtain ⟨h3, _⟩ := h3 hr
  have hps := pos_ge h0
  rw [show ab (fv s) = fv s from by have := fv_nonneg hg; unfold ab; rw [if_neg (by grind)]] at hps
  have hU := pw_pos (-1074)
  have hH : pw (-1074) = 2 * pw (-1075) := half_unit
  have hQ := pw_pos (-1075)
  have hrn : 4503599627370496 ≤ r := by
    rcases Nat.lt_or_ge r 4503599627370496 with h | h
    · exfalso
      have hm : mid2 r = 2 * r + 1 := by
        unfold mid2
        have a1 := rm_seg 0 r (.inl rfl) (by omega)
        have a2 := rm_succ_seg 0 r (.inl rfl) (by omega)
        simp only [Nat.zero_mul, Nat.zero_add, Nat.pow_zero, Nat.mul_one] at a1 a2
        rw [a1, a2]; omega
      have hm2 : (mid2 r : Rat) ≤ pw 54 := by
        rw [show (54 : Int) = ((54 : Nat) : Int) from rfl, pw_nat]
        exact cast_le.2 (by rw [hm]; omega)
      have h5 : (mid2 r : Rat) * pw (-1075) ≤ pw 54 * pw (-1075) := Rat.mul_le_mul_of_nonneg_right hm2 (Rat.le_of_lt hQ)
      rw [← pw_add] at h5
      have h6 := sq_le (Rat.mul_nonneg Rat.natCast_nonneg (Rat.le_of_lt hQ)) h5
      rw [← pw_add] at h6
      have h7 : pw (54 + -1075 + (54 + -1075)) < pw (-1074) := pw_lt (by decide)
      grind
    · exact h
  have hfv : fv (sqrtF s) = (rm r : Rat) * pw (-1074) := by rw [e, fv_word hr]; rfl
  rw [hfv]
  have hrm : 4503599627370496 ≤ rm r := by
    have := rm_mono hrn
    rwa [show rm 4503599627370496 = 4503599627370496 from by decide] at this
  obtain ⟨g, hg1, hg2⟩ := gap_rel r
  obtain ⟨g', hg1', hg2'⟩ := gap_rel (r - 1)
  rw [show r - 1 + 1 = r from by omega] at hg1'
  obtain ⟨h4, _⟩ := h4 (by omega)
  have hgA : 4503599627370496 * g ≤ rm r := by omega
  have hgB : 4503599627370496 * g' ≤ rm r := by omega
  have em : (mid2 r : Rat) = 2 * (rm r : Rat) + (g : Rat) := by
    unfold mid2; rw [hg1, show rm r + (rm r + g) = 2 * rm r + g from by omega, Rat.natCast_add, Rat.natCast_mul]; rfl
  have em' : (mid2 (r - 1) : Rat) = 2 * (rm r : Rat) - (g' : Rat) := by
    unfold mid2; rw [show r - 1 + 1 = r from by omega]
    have : ((rm (r - 1) + rm r : Nat) : Rat) + (g' : Rat) = ((2 * rm r : Nat) : Rat) := by rw [← Rat.natCast_add]; congr 1; omega
    rw [Rat.natCast_mul, show ((2 : Nat) : Rat) = 2 from rfl] at this
    grind
  have q1 : (4503599627370496 : Rat) * (g : Rat) ≤ (rm r : Rat) := by have := cast_le.2 hgA; rwa [Rat.natCast_mul] at this
  have q2 : (4503599627370496 : Rat) * (g' : Rat) ≤ (rm r : Rat) := by have := cast_le.2 hgB; rwa [Rat.natCast_mul] at this
  have q1' := Rat.mul_le_mul_of_nonneg_right q1 (Rat.le_of_lt hQ)
  have q2' := Rat.mul_le_mul_of_nonneg_right q2 (Rat.le_of_lt hQ)
  have hR0 : (0 : Rat) ≤ (rm r : Rat) * pw (-1075) := Rat.mul_nonneg Rat.natCast_nonneg (Rat.le_of_lt hQ)
  have up : (mid2 r : Rat) * pw (-1075) ≤ (rm r : Rat) * pw (-1074) * (1 + uu) := by rw [em, hH]; unfold uu; grind
  have lo : (rm r : Rat) * pw (-1074) * (1 - uu) ≤ (mid2 (r - 1) : Rat) * pw (-1075) := by rw [em', hH]; unfold uu; grind
  have lo0 : 0 ≤ (rm r : Rat) * pw (-1074) * (1 - uu) := Rat.mul_nonneg (Rat.mul_nonneg Rat.natCast_nonneg (Rat.le_of_lt hU)) (by unfold uu; decide +kernel)
  have s1 := sq_le (Rat.mul_nonneg Rat.natCast_nonneg (Rat.le_of_lt hQ)) up
  have s2 := sq_le lo0 lo
  refine ⟨Rat.mul_nonneg Rat.natCast_nonneg (Rat.le_of_lt hU), ?_, ?_⟩ <;> grind

/-- The product of two floats that are In. -/
theorem in_mul {x y : Nat} (hx : inS x = true) (hy : inS y = true) : fin (fmul x y) ∧ ab (fv (fmul x y) - fv x * fv y) ≤ pw (-53) * ab (fv x * fv y) := by
  have hp := prod_in hx hy
  refine ⟨hp.2.1, fmul_err_big (inS_bd hx).1 (inS_bd hy).1 hp.2.1 ?_⟩
  by_cases h1 : rg x = 0
  · left; have : fv x = 0 := by unfold fv; rw [h1, rm_zero]; cases sg x <;> simp [sv]
    rw [this]; grind
  · by_cases h2 : rg y = 0
    · left; have : fv y = 0 := by unfold fv; rw [h2, rm_zero]; cases sg y <;> simp [sv]
      rw [this]; grind
    · right
      rw [ab_mul]
      have a1 := inS_ge hx h1
      have a2 := inS_ge hy h2
      have a3 := Rat.mul_le_mul_of_nonneg_left a2 (ab_nonneg (fv x))
      have a4 := Rat.mul_le_mul_of_nonneg_right a1 (Rat.le_of_lt (pw_pos (-400)))
      rw [← pw_add] at a4
      have a5 : pw (-1022) ≤ pw (-400 + -400) := pw_le (by decide)
      grind

theorem dots_fin {m P s p c : Rat} (hs : s ≤ c * P + 2 * (m + 1) * 0) (h4 : c * P ≤ (m + 2) * uu * P) (h5 : 0 ≤ p * (m + 1)) : s ≤ P * (m + 2) * uu + p * (m + 1) := by grind
theorem dots_law {xs ys : List Nat} (h : fitS xs ys = true) (hl : xs.length ≤ 12) :
    ¬ (sumR (fun i => ab (fv (ge xs i)) * ab (fv (ge ys i))) xs.length * ((xs.length + 1 : Nat) : Rat) * pw (-53) + pw (-1074) * (xs.length : Rat) < ab (fv (dotF xs ys) - sumR (fun i => fv (ge xs i) * fv (ge ys i)) xs.length)) := by
  have e : dotF xs ys = sumT (dotT xs ys) xs.length := by unfold dotF; rw [if_pos h]
  rw [e]
  obtain ⟨h1, h2, h3⟩ := fitS_iff.1 h
  have ht : ∀ i, i < xs.length → fin (dotT xs ys i) ∧ ab (fv (dotT xs ys i)) ≤ pw 800 := fun i hi => dotT_bd h hi
  have hP : sumR (fun i => ab (fv (ge xs i)) * ab (fv (ge ys i))) xs.length = sumR (fun i => ab (fv (ge xs i) * fv (ge ys i))) xs.length := sumR_congr _ (fun i _ => (ab_mul _ _).symm)
  rw [hP, Rat.not_lt]
  have hQ := pw_pos (-1074)
  generalize pw (-1074) = p at *
  obtain ⟨n, hn⟩ : ∃ n, n = xs.length := ⟨_, rfl⟩
  rw [← hn] at ht hl ⊢
  rcases n with _ | m
  · have e1 : fv (sumT (dotT xs ys) 0) = 0 := fv_zero
    have e2 : sumR (fun i => fv (ge xs i) * fv (ge ys i)) 0 = 0 := rfl
    have e3 : sumR (fun i => ab (fv (ge xs i) * fv (ge ys i))) 0 = 0 := rfl
    rw [e1, e2, e3, show (0 : Rat) - 0 = 0 from by grind, ab_zero, show ((0 : Nat) : Rat) = 0 from rfl]
    grind
  · have hs := sum_err (t := dotT xs ys) (T := fun i => fv (ge xs i) * fv (ge ys i)) (w := uu) (η := 0) (by unfold uu; decide +kernel) (by unfold uu; decide +kernel) Rat.le_refl m (by omega) (fun i hi => by
      have hf := sumT_bd (E := 800) (by decide) (by decide) (i + 1) (by omega) (fun j hj => ht j (by omega))
      have hm := in_mul (allIn_get h2 (k := i) (by omega)) (allIn_get h3 (k := i) (by omega))
      rw [uu_eq] at hm
      exact ⟨(ht i hi).1, hf.1, by have := hm.2; unfold dotT; grind⟩)
    rw [uu_eq]
    have hm0 : (0 : Rat) ≤ (m : Rat) := Rat.natCast_nonneg
    have hm1 : (m : Rat) ≤ 11 := by have := cast_le.2 (show m ≤ 11 by omega); exact this
    have hP0 := sumR_nonneg (t := fun i => ab (fv (ge xs i) * fv (ge ys i))) (m + 1) (fun i _ => ab_nonneg _)
    have hc : ((m : Rat) * vv + uu) ≤ ((m : Rat) + 2) * uu := by unfold vv uu; grind
    have h4 := Rat.mul_le_mul_of_nonneg_right hc hP0
    have e1 : ((m + 1 : Nat) : Rat) = (m : Rat) + 1 := by rw [Rat.natCast_add]; rfl
    have e2 : ((m + 1 + 1 : Nat) : Rat) = (m : Rat) + 2 := by rw [Rat.natCast_add, e1]; grind
    have h5 : 0 ≤ p * ((m : Rat) + 1) := Rat.mul_nonneg (Rat.le_of_lt hQ) (by grind)
    rw [e1, e2]
    exact dots_fin hs h4 h5

theorem adds_law {k : Nat} {xs ys : List Nat} (h : axB k xs ys = true) {i : Nat} (hi : i < xs.length) :
    ¬ ((0 + ab (fv k) * ab (fv (ge xs i)) + 1 * ab (fv (ge ys i))) * ((3 : Nat) : Rat) * pw (-53) + pw (-1074) < ab (fv (axT k xs ys i) - (0 + fv k * fv (ge xs i) + 1 * fv (ge ys i)))) := by
  have h0 := h
  unfold axB at h
  rw [Bool.and_eq_true] at h
  obtain ⟨h1, hk⟩ := h
  obtain ⟨h1, h2, h3⟩ := fitS_iff.1 h1
  have hx := allIn_get h2 hi
  have hy := allIn_get h3 (k := i) (by omega)
  obtain ⟨hf, hm⟩ := in_mul hk hx
  have hb := axT_bd h0 hi
  have hfy := (inS_bd hy).1
  have hpb := (prod_in hk hx).2.2.1
  have hyb := (inS_bd hy).2
  have hfin : fin (axT k xs ys i) := (add_bd (B := pw 801) hfy hf (by
    rw [show (801 : Int) = 800 + 1 from rfl, pw_double]
    have : pw 400 ≤ pw 800 := pw_le (by decide)
    grind) (rep_pw1 (by decide) (by decide))).2.1
  have ha := fadd_err hfy hf hfin
  have ha : ab (fv (axT k xs ys i) - (fv (ge ys i) + fv (fmul k (ge xs i)))) ≤ pw (-53) * ab (fv (ge ys i) + fv (fmul k (ge xs i))) := ha
  rw [Rat.not_lt]
  rw [← ab_mul] at *
  rw [uu_eq] at *
  have b1 := ab_add (fv (axT k xs ys i) - (fv (ge ys i) + fv (fmul k (ge xs i)))) (fv (fmul k (ge xs i)) - fv k * fv (ge xs i))
  have b2 := ab_add (fv (fmul k (ge xs i)) - fv k * fv (ge xs i)) (fv k * fv (ge xs i))
  have b3 := ab_add (fv (ge ys i)) (fv (fmul k (ge xs i)))
  rw [show fv (axT k xs ys i) - (fv (ge ys i) + fv (fmul k (ge xs i))) + (fv (fmul k (ge xs i)) - fv k * fv (ge xs i)) = fv (axT k xs ys i) - (0 + fv k * fv (ge xs i) + 1 * fv (ge ys i)) from by grind] at b1
  rw [show fv (fmul k (ge xs i)) - fv k * fv (ge xs i) + fv k * fv (ge xs i) = fv (fmul k (ge xs i)) from by grind] at b2
  have c1 := ab_nonneg (fv k * fv (ge xs i))
  have c2 := ab_nonneg (fv (ge ys i))
  have c3 := pw_pos (-1074)
  have c4 : ((3 : Nat) : Rat) = 3 := rfl
  unfold uu at *
  rw [c4]
  grind
end Lev

/- Plain: the law KernSizes. -/
set_option linter.unusedVariables false
namespace Lev
open Ieee

theorem fv_of_rg0 {x : Nat} (h : rg x = 0) : fv x = 0 := by
  unfold fv; rw [h, rm_zero]; cases sg x <;> simp [sv]
theorem sums_fin {m P s : Rat} (hs : s ≤ (m * vv + 0) * P + 2 * (m + 1) * 0) (hm0 : 0 ≤ m) (hm : m ≤ 11) (hP : 0 ≤ P) : s ≤ P * (m + 1) * uu + 0 := by
  have h : (m * vv) * P ≤ ((m + 1) * uu) * P := Rat.mul_le_mul_of_nonneg_right (by unfold vv uu; grind) hP
  grind
theorem sums_law {xs : List Nat} (h : allIn xs = true) (hl : xs.length ≤ 12) :
    ¬ (sumR (fun i => ab (fv (ge xs i))) xs.length * (xs.length : Rat) * pw (-53) + 0 < ab (fv (sumF xs) - sumR (fun i => ab (fv (ge xs i))) xs.length)) := by
  have e : sumF xs = sumT (absT xs) xs.length := by unfold sumF; rw [if_pos h]
  rw [e, Rat.not_lt]
  have ht : ∀ i, i < xs.length → fin (absT xs i) ∧ ab (fv (absT xs i)) ≤ pw 400 := fun i hi => absT_bd h hi
  obtain ⟨n, hn⟩ : ∃ n, n = xs.length := ⟨_, rfl⟩
  rw [← hn] at ht hl ⊢
  rcases n with _ | m
  · have e1 : fv (sumT (absT xs) 0) = 0 := fv_zero
    have e2 : sumR (fun i => ab (fv (ge xs i))) 0 = 0 := rfl
    rw [e1, e2, show (0 : Rat) - 0 = 0 from by grind, ab_zero, show ((0 : Nat) : Rat) = 0 from rfl]
    grind
  · have hs := sum_err (t := absT xs) (T := fun i => ab (fv (ge xs i))) (w := 0) (η := 0) Rat.le_refl (by decide +kernel) Rat.le_refl m (by omega) (fun i hi => by
      have hf := sumT_bd (E := 400) (by decide) (by decide) (i + 1) (by omega) (fun j hj => ht j (by omega))
      refine ⟨(ht i hi).1, hf.1, ?_⟩
      unfold absT
      rw [fv_rg, show ∀ x : Rat, x - x = 0 from fun x => by grind, ab_zero]
      grind)
    rw [sumR_congr (t := fun i => ab (ab (fv (ge xs i)))) (s := fun i => ab (fv (ge xs i))) (m + 1) (fun i _ => by show ab (ab _) = _; rw [ab_of (ab_nonneg _)])] at hs
    rw [uu_eq, show ((m + 1 : Nat) : Rat) = (m : Rat) + 1 from by rw [Rat.natCast_add]; rfl]
    exact sums_fin hs Rat.natCast_nonneg (by have := cast_le.2 (show m ≤ 11 by omega); exact this) (sumR_nonneg _ (fun i _ => ab_nonneg _))

theorem scT_val {xs : List Nat} (h : allIn xs = true) (h0 : mostT xs xs.length ≠ 0) {i : Nat} (hi : i < xs.length) : fv (scT xs (normK xs) i) = fv (ge xs i) * pw (-normK xs) := by
  unfold scT
  by_cases hz : rg (ge xs i) = 0
  · rw [fv_of_rg0 hz, Rat.zero_mul]
    have h1 := rr_spec (mul_pw_nonneg (ge xs i) (-normK xs))
    unfold ldS
    have h2 : ab (fv (ge xs i)) * pw (-normK xs) = 0 := by rw [fv_of_rg0 hz, ab_zero, Rat.zero_mul]
    rw [h2] at h1 ⊢
    rw [h1.zero_eq, fv_word (by decide), rm_zero]
    cases sg (ge xs i) <;> simp [sv]
  · have hin := allIn_get h hi
    have hb : 2805742567851819008 ≤ rg (ge xs i) ∧ rg (ge xs i) ≤ 6408622269748215808 := by
      unfold inS at hin; rw [decide_eq_true_eq] at hin; omega
    obtain ⟨t1, t2⟩ := topS_lo400 hb.1 hb.2
    have hm := (mostT_in h xs.length (Nat.le_refl _)).resolve_left h0
    have hmr := rg_small hm.2
    obtain ⟨m1, m2⟩ := topS_lo400 (m := mostT xs xs.length) (by omega) (by omega)
    unfold normK
    exact (ldS_exact hz (by omega) (by omega)).2

theorem sumR_mul (t : Nat → Rat) (c : Rat) : ∀ k : Nat, sumR (fun i => t i * c) k = sumR t k * c
  | 0 => by show (0 : Rat) = 0 * c; rw [Rat.zero_mul]
  | k + 1 => by
    show sumR (fun i => t i * c) k + t k * c = (sumR t k + t k) * c
    rw [sumR_mul t c k]; grind
theorem sumR_ge {t : Nat → Rat} : ∀ k : Nat, (∀ i, i < k → 0 ≤ t i) → ∀ i, i < k → t i ≤ sumR t k
  | 0, _, i, hi => absurd hi (Nat.not_lt_zero _)
  | k + 1, h, i, hi => by
    show t i ≤ sumR t k + t k
    have h1 := sumR_nonneg k (fun j hj => h j (by omega))
    have h2 := h k (by omega)
    by_cases e : i = k
    · subst e; grind
    · have := sumR_ge k (fun j hj => h j (by omega)) i (by omega)
      grind
theorem sq_nonneg (x : Rat) : 0 ≤ x * x := by
  rcases (by grind : x ≤ 0 ∨ 0 ≤ x) with h | h
  · have := Rat.mul_nonneg (show 0 ≤ -x by grind) (show 0 ≤ -x by grind); grind
  · exact Rat.mul_nonneg h h
theorem norm_fin {n T nT s H e : Rat} (hT : 0 ≤ T) (h1 : T ≤ nT) (h2 : nT ≤ 12 * T) (he : e ≤ (nT - T) * vv + uu * T + uu * (1 / 1099511627776) * T) (hs1 : s - T ≤ e) (hs2 : T - s ≤ e)
    (hH1 : H * ((1 - uu) * (1 - uu)) ≤ s) (hH2 : s ≤ H * ((1 + uu) * (1 + uu))) : ab (H - T) ≤ (nT + 4 * T) * uu := by
  unfold uu vv at *
  rw [ab_le_iff]
  constructor <;> grind
theorem norm_e' {m T e η η2 u v c : Rat} (hs : e ≤ (m * v + u) * T + 2 * (m + 1) * η) (q1 : (m + 1) * η ≤ 12 * η) (hη : η ≤ η2) (hη2 : η2 * 24 ≤ c) (q2 : c * 1 ≤ c * T) :
    e ≤ ((m + 1) * T - T) * v + u * T + c * T := by grind
theorem norm_e {m T e η η2 : Rat} (hs : e ≤ (m * vv + uu) * T + 2 * (m + 1) * η) (q1 : (m + 1) * η ≤ 12 * η) (hη : η ≤ η2) (hη2 : η2 * 24 ≤ uu * (1 / 1099511627776)) (q2 : uu * (1 / 1099511627776) * 1 ≤ uu * (1 / 1099511627776) * T) :
    e ≤ ((m + 1) * T - T) * vv + uu * T + uu * (1 / 1099511627776) * T := norm_e' hs q1 hη hη2 q2
theorem norm_law {xs : List Nat} (h : allIn xs = true) (hl : xs.length ≤ 12) :
    fin (normF xs) ∧ ab (fv (normF xs) * fv (normF xs) - sumR (fun i => fv (ge xs i) * fv (ge xs i)) xs.length) ≤ sumR (fun i => fv (ge xs i) * fv (ge xs i)) xs.length * ((xs.length + 4 : Nat) : Rat) * pw (-53) := by
  by_cases h0 : mostT xs xs.length = 0
  · have e : normF xs = 0 := by unfold normF; rw [if_neg (fun hh => hh.2 h0)]
    have hz : sumR (fun i => fv (ge xs i) * fv (ge xs i)) xs.length = 0 := by
      rw [sumR_congr (s := fun _ => (0 : Rat) * 0) xs.length (fun i hi => by
        have := mostT_le (xs := xs) hi
        show fv (ge xs i) * fv (ge xs i) = 0 * 0
        rw [fv_of_rg0 (by omega)]), sumR_mul, Rat.mul_zero]
    rw [e, hz, fv_zero, show (0 : Rat) * 0 - 0 = 0 from by grind, ab_zero]
    exact ⟨fin_zero, by grind⟩
  · have e : normF xs = ldS (sqrtF (sumT (sqT xs (normK xs)) xs.length)) (normK xs) := by unfold normF; rw [if_pos ⟨h, h0⟩]
    have hns := norm_sum h h0 (by omega)
    have hrr := root_range h (by omega) h0
    have hsq := sqrt_bd hns.1 hns.2.1 hns.2.2
    have ht : ∀ i, i < xs.length → fin (sqT xs (normK xs) i) ∧ ab (fv (sqT xs (normK xs) i)) ≤ pw 2 := fun i hi => ⟨(norm_terms h h0 hi).2.2.2.1, (norm_terms h h0 hi).2.2.2.2.1⟩
    obtain ⟨j, hj, hjm⟩ := (most_at (xs := xs) xs.length (Nat.le_refl _)).resolve_left h0
    have hm := (mostT_in h xs.length (Nat.le_refl _)).resolve_left h0
    have hmr := rg_small hm.2
    obtain ⟨m1, m2⟩ := topS_lo400 (m := mostT xs xs.length) (by omega) (by omega)
    -- the sum of squares, scaled
    have hT1 : 1 ≤ sumR (fun i => fv (ge xs i) * pw (-normK xs) * (fv (ge xs i) * pw (-normK xs))) xs.length := by
      have a1 := sumR_ge (t := fun i => fv (ge xs i) * pw (-normK xs) * (fv (ge xs i) * pw (-normK xs))) xs.length (fun i _ => sq_nonneg _) j hj
      have a2 : pw (normK xs) ≤ ab (fv (ge xs j)) := by
        have := val_ge (b := mostT xs xs.length) (by omega)
        rw [ab_fv, hmr] at this
        unfold normK; rw [ab_fv, hjm]; exact this
      have a3 := Rat.mul_le_mul_of_nonneg_right a2 (Rat.le_of_lt (pw_pos (-normK xs)))
      rw [← pw_add, show normK xs + -normK xs = 0 from by omega, pw_zero] at a3
      have a4 := sq_le (by decide) a3
      have a5 : ab (fv (ge xs j)) * pw (-normK xs) * (ab (fv (ge xs j)) * pw (-normK xs)) = fv (ge xs j) * pw (-normK xs) * (fv (ge xs j) * pw (-normK xs)) := by
        have : ab (fv (ge xs j)) * ab (fv (ge xs j)) = fv (ge xs j) * fv (ge xs j) := by rw [← ab_mul, ab_of (sq_nonneg _)]
        grind
      rw [a5] at a4
      rw [show (1 : Rat) * 1 = 1 from by decide +kernel] at a4
      exact Rat.le_trans a4 a1
    have hTQ : sumR (fun i => fv (ge xs i) * fv (ge xs i)) xs.length = sumR (fun i => fv (ge xs i) * pw (-normK xs) * (fv (ge xs i) * pw (-normK xs))) xs.length * (pw (normK xs) * pw (normK xs)) := by
      rw [← sumR_mul]
      refine sumR_congr _ (fun i _ => ?_)
      show fv (ge xs i) * fv (ge xs i) = fv (ge xs i) * pw (-normK xs) * (fv (ge xs i) * pw (-normK xs)) * (pw (normK xs) * pw (normK xs))
      have := pw_neg (normK xs)
      have e2 : fv (ge xs i) * pw (-normK xs) * (fv (ge xs i) * pw (-normK xs)) * (pw (normK xs) * pw (normK xs)) = fv (ge xs i) * fv (ge xs i) * ((pw (-normK xs) * pw (normK xs)) * (pw (-normK xs) * pw (normK xs))) := by grind
      rw [e2, this]; grind
    -- its error
    obtain ⟨n, hn⟩ : ∃ n, n = xs.length := ⟨_, rfl⟩
    have herr : ab (fv (sumT (sqT xs (normK xs)) xs.length) - sumR (fun i => fv (ge xs i) * pw (-normK xs) * (fv (ge xs i) * pw (-normK xs))) xs.length) ≤
        ((xs.length : Rat) * sumR (fun i => fv (ge xs i) * pw (-normK xs) * (fv (ge xs i) * pw (-normK xs))) xs.length - sumR (fun i => fv (ge xs i) * pw (-normK xs) * (fv (ge xs i) * pw (-normK xs))) xs.length) * vv + uu * sumR (fun i => fv (ge xs i) * pw (-normK xs) * (fv (ge xs i) * pw (-normK xs))) xs.length + uu * (1 / 1099511627776) * sumR (fun i => fv (ge xs i) * pw (-normK xs) * (fv (ge xs i) * pw (-normK xs))) xs.length := by
      have hη : pw (-1075) ≤ pw (-200) := pw_le (by decide)
      have hη2 : pw (-200) * 24 ≤ uu * (1 / 1099511627776) := by decide +kernel
      have hη0 := pw_pos (-1075)
      have hval := fun i (hi : i < xs.length) => scT_val h h0 hi
      have hmul := fun i (hi : i < xs.length) => fmul_err (norm_terms h h0 hi).2.1 (norm_terms h h0 hi).2.1 (norm_terms h h0 hi).2.2.2.1
      rw [← hn] at ht hval hmul hT1 hl hj ⊢
      rcases n with _ | m
      · exact absurd hj (Nat.not_lt_zero _)
      · have hs := sum_err (t := sqT xs (normK xs)) (T := fun i => fv (ge xs i) * pw (-normK xs) * (fv (ge xs i) * pw (-normK xs))) (w := uu) (η := pw (-1075)) (by unfold uu; decide +kernel) (by unfold uu; decide +kernel) (Rat.le_of_lt hη0) m (by omega) (fun i hi => by
          have hf := sumT_bd (E := 2) (by decide) (by decide) (i + 1) (by omega) (fun j hj => ht j (by omega))
          refine ⟨(ht i hi).1, hf.1, ?_⟩
          have := hmul i hi
          rw [hval i hi, uu_eq] at this
          exact this)
        rw [sumR_congr (t := fun i => ab (fv (ge xs i) * pw (-normK xs) * (fv (ge xs i) * pw (-normK xs)))) (s := fun i => fv (ge xs i) * pw (-normK xs) * (fv (ge xs i) * pw (-normK xs))) (m + 1) (fun i _ => ab_of (sq_nonneg _))] at hs
        have hm0 : (0 : Rat) ≤ (m : Rat) := Rat.natCast_nonneg
        have hm1 : (m : Rat) ≤ 11 := by have := cast_le.2 (show m ≤ 11 by omega); exact this
        rw [show ((m + 1 : Nat) : Rat) = (m : Rat) + 1 from by rw [Rat.natCast_add]; rfl]
        generalize sumR (fun i => fv (ge xs i) * pw (-normK xs) * (fv (ge xs i) * pw (-normK xs))) (m + 1) = T at *
        generalize pw (-1075) = η at *
        generalize pw (-200) = η2 at *
        have q1 : ((m : Rat) + 1) * η ≤ 12 * η := Rat.mul_le_mul_of_nonneg_right (by grind) (Rat.le_of_lt hη0)
        have q2 : uu * (1 / 1099511627776) * 1 ≤ uu * (1 / 1099511627776) * T := Rat.mul_le_mul_of_nonneg_left hT1 (by unfold uu; decide +kernel)
        exact norm_e hs q1 hη hη2 q2
    generalize sumR (fun i => fv (ge xs i) * pw (-normK xs) * (fv (ge xs i) * pw (-normK xs))) xs.length = T at *
    have hn1 : 1 ≤ xs.length := by omega
    have hnT1 : T ≤ (xs.length : Rat) * T := by
      have := Rat.mul_le_mul_of_nonneg_right (cast_le.2 hn1) (show 0 ≤ T by grind)
      rwa [show ((1 : Nat) : Rat) = 1 from rfl, Rat.one_mul] at this
    have hnT2 : (xs.length : Rat) * T ≤ 12 * T := Rat.mul_le_mul_of_nonneg_right (cast_le.2 hl) (show 0 ≤ T by grind)
    have hs1 := (ab_le_iff.1 Rat.le_refl : -ab (fv (sumT (sqT xs (normK xs)) xs.length) - T) ≤ fv (sumT (sqT xs (normK xs)) xs.length) - T ∧ fv (sumT (sqT xs (normK xs)) xs.length) - T ≤ ab (fv (sumT (sqT xs (normK xs)) xs.length) - T))
    have hspos : 0 < fv (sumT (sqT xs (normK xs)) xs.length) := by
      have hv : vv = 1 / 9007199254740992 + 1 / 9007199254740992 * (1 / 1099511627776) := rfl
      have hu : uu = 1 / 9007199254740992 := rfl
      rw [hv, hu] at herr
      grind
    have hrs : rg (sumT (sqT xs (normK xs)) xs.length) ≠ 0 := fun hh => by rw [fv_of_rg0 hh] at hspos; grind
    obtain ⟨q0, q1, q2⟩ := sqrt_err hns.1 hns.2.1 hrs
    have hfin := norm_fin (n := (xs.length : Rat)) (T := T) (nT := (xs.length : Rat) * T) (s := fv (sumT (sqT xs (normK xs)) xs.length)) (H := fv (sqrtF (sumT (sqT xs (normK xs)) xs.length)) * fv (sqrtF (sumT (sqT xs (normK xs)) xs.length))) (by grind) hnT1 hnT2 herr (by grind) (by grind) q1 q2
    -- scaled back
    have hrt : rg (sqrtF (sumT (sqT xs (normK xs)) xs.length)) ≠ 0 := fun hh => by
      have h5 := hrr.1
      rw [fv_of_rg0 hh, ab_zero, pw_zero] at h5
      exact absurd h5 (by decide)
    have t1 : 0 ≤ topS (sqrtF (sumT (sqT xs (normK xs)) xs.length)) := by
      have h5 := val_lt hrt
      have h6 : pw 0 < pw (topS (sqrtF (sumT (sqT xs (normK xs)) xs.length)) + 1) := by have := hrr.1; grind
      have : 0 < topS (sqrtF (sumT (sqT xs (normK xs)) xs.length)) + 1 := by
        rcases Int.lt_or_le 0 (topS (sqrtF (sumT (sqT xs (normK xs)) xs.length)) + 1) with h7 | h7
        · exact h7
        · have := pw_le h7; grind
      omega
    have t2 : topS (sqrtF (sumT (sqT xs (normK xs)) xs.length)) ≤ 10 := by
      have h5 := val_ge hrt
      exact pw_lt_of (Rat.le_trans h5 hrr.2)
    have hK : -400 ≤ normK xs ∧ normK xs ≤ 400 := ⟨by unfold normK; omega, by unfold normK; omega⟩
    obtain ⟨f1, f2⟩ := ldS_exact (k := normK xs) hrt (by omega) (by omega)
    rw [e]
    refine ⟨f1, ?_⟩
    rw [f2, hTQ, uu_eq]
    generalize sqrtF (sumT (sqT xs (normK xs)) xs.length) = hh at *
    have hp := pw_pos (normK xs)
    have hp2 : 0 ≤ pw (normK xs) * pw (normK xs) := Rat.le_of_lt (Rat.mul_pos hp hp)
    have e3 : fv hh * pw (normK xs) * (fv hh * pw (normK xs)) - T * (pw (normK xs) * pw (normK xs)) = (fv hh * fv hh - T) * (pw (normK xs) * pw (normK xs)) := by grind
    rw [e3, ab_mul, ab_of hp2]
    have e4 : ((xs.length + 4 : Nat) : Rat) = (xs.length : Rat) + 4 := by rw [Rat.natCast_add]; rfl
    rw [e4]
    have := Rat.mul_le_mul_of_nonneg_right hfin hp2
    generalize pw (normK xs) * pw (normK xs) = p2 at *
    grind
end Lev
