/- Sums of products of floats that are In: they are numbers; plain. -/
import Derived.Test.YtcoaachajdomcaaTb
import Derived.Test.YtcoaachajdomcaaFi
namespace Lev
open Ieee

def fadd (a b : Nat) : Nat := (D.add a b).getD 0

/-- What is rounded is not above what can be told and is not below it. -/
theorem rnd_le {v B : Rat} {r : Nat} (h : IsRnd v r) (hv : v ≤ B) (hB : rep B) : r < INF ∧ (rm r : Rat) * pw (-1074) ≤ B := by
  obtain ⟨R, hR, hB⟩ := hB
  have h1 := IsRnd.exact hR
  rw [hB] at h1
  have h2 := h.mono h1 hv
  refine ⟨by omega, ?_⟩
  rw [← hB]
  exact unit_le.2 (rm_mono h2)

theorem ab_add (x y : Rat) : ab (x + y) ≤ ab x + ab y := by
  unfold ab
  repeat' split
  all_goals grind

theorem fin_word {s : Bool} {r : Nat} (h : r < INF) : fin (D.word s r) := by
  have := INF_eq
  unfold fin; rw [rg_word _ _ (by omega)]; exact h
theorem ab_word {s : Bool} {r : Nat} (h : r < INF) : ab (fv (D.word s r)) = (rm r : Rat) * pw (-1074) := by
  have := INF_eq
  rw [ab_fv, rg_word _ _ (by omega)]

/-- A product that is a number, and not above a bound. -/
theorem mul_bd {a b : Nat} {B : Rat} (ha : fin a) (hb : fin b) (h : ab (fv a) * ab (fv b) ≤ B) (hB : rep B) : D.mul a b = some (fmul a b) ∧ fin (fmul a b) ∧ ab (fv (fmul a b)) ≤ B ∧ fmul a b < 18446744073709551616 := by
  have hI := INF_eq
  obtain ⟨r, h1, h2⟩ := mul_spec ha hb
  rw [ab_mul] at h2
  obtain ⟨k1, k2⟩ := rnd_le h2 h hB
  have e : fmul a b = D.word (sg a ^^ sg b) r := by unfold fmul; rw [h1]; rfl
  rw [e]
  exact ⟨h1, fin_word k1, by rw [ab_word k1]; exact k2, word_lt64 _ _ (by omega)⟩
theorem add_bd {a b : Nat} {B : Rat} (ha : fin a) (hb : fin b) (h : ab (fv a) + ab (fv b) ≤ B) (hB : rep B) : D.add a b = some (fadd a b) ∧ fin (fadd a b) ∧ ab (fv (fadd a b)) ≤ B ∧ fadd a b < 18446744073709551616 := by
  have hI := INF_eq
  obtain ⟨r, h1, h2⟩ := add_spec ha hb
  obtain ⟨k1, k2⟩ := rnd_le h2 (Rat.le_trans (ab_add _ _) h) hB
  have e : fadd a b = D.word (sumSg (sg a) (sg b) (fv a + fv b)) r := by unfold fadd; rw [h1]; rfl
  rw [e]
  exact ⟨h1, fin_word k1, by rw [ab_word k1]; exact k2, word_lt64 _ _ (by omega)⟩

theorem rep_pw {M : Nat} {E : Int} (hM : M < 9007199254740992) (h1 : -1074 ≤ E) (h2 : E ≤ 971) : rep ((M : Rat) * pw E) := rep_yes hM h1 h2

theorem fv_p400 : fv 6408622269748215808 = pw 400 := fv_pow 1423 (by decide) (by decide)
theorem inS_bd {x : Nat} (h : inS x = true) : fin x ∧ ab (fv x) ≤ pw 400 := by
  have hI := INF_eq
  unfold inS at h
  rw [decide_eq_true_eq] at h
  have h1 : rg x ≤ 6408622269748215808 := by omega
  refine ⟨by unfold fin; omega, ?_⟩
  have h2 : ab (fv 6408622269748215808) = pw 400 := by rw [fv_p400, ab_pw]
  rw [← h2, ab_fv, ab_fv]
  have h3 : rg 6408622269748215808 = 6408622269748215808 := by decide
  rw [h3]
  exact unit_le.2 (rm_mono h1)

def ge (xs : List Nat) (k : Nat) : Nat := xs[k]?.getD 0
def allIn (xs : List Nat) : Bool := xs.all inS
theorem allIn_get {xs : List Nat} (h : allIn xs = true) {k : Nat} (hk : k < xs.length) : inS (ge xs k) = true := by
  unfold allIn at h
  rw [List.all_eq_true] at h
  unfold ge
  rw [List.getElem?_eq_getElem hk]
  exact h _ (List.getElem_mem hk)

/-- The product of two floats that are In. -/
theorem prod_in {x y : Nat} (hx : inS x = true) (hy : inS y = true) : D.mul x y = some (fmul x y) ∧ fin (fmul x y) ∧ ab (fv (fmul x y)) ≤ pw 800 ∧ fmul x y < 18446744073709551616 := by
  obtain ⟨f1, b1⟩ := inS_bd hx
  obtain ⟨f2, b2⟩ := inS_bd hy
  refine mul_bd f1 f2 ?_ ?_
  · have e : pw 800 = pw 400 * pw 400 := by rw [← pw_add]; rfl
    rw [e]
    have h1 := Rat.mul_le_mul_of_nonneg_left b2 (ab_nonneg (fv x))
    have h2 := Rat.mul_le_mul_of_nonneg_right b1 (Rat.le_of_lt (pw_pos 400))
    exact Rat.le_trans h1 h2
  · have := rep_pw (M := 1) (E := 800) (by decide) (by decide) (by decide)
    rwa [show ((1 : Nat) : Rat) = 1 from rfl, Rat.one_mul] at this

/-- A sum of k terms, none of them above 2 to the power of E. -/
def sumT (t : Nat → Nat) : Nat → Nat
  | 0 => 0
  | k + 1 => fadd (sumT t k) (t k)
theorem fin_zero : fin 0 := by decide
theorem ab_fv0 : ab (fv 0) = 0 := by rw [ab_fv]; decide +kernel
theorem sumT_bd {t : Nat → Nat} {E : Int} (h1 : -1074 ≤ E) (h2 : E ≤ 971) : ∀ k : Nat, k ≤ 1000 → (∀ i, i < k → fin (t i) ∧ ab (fv (t i)) ≤ pw E) →
    fin (sumT t k) ∧ ab (fv (sumT t k)) ≤ (k : Rat) * pw E ∧ sumT t k < 18446744073709551616 := by
  intro k
  induction k with
  | zero =>
    intro _ _
    refine ⟨fin_zero, ?_, by show 0 < 18446744073709551616; decide⟩
    show ab (fv 0) ≤ _
    rw [ab_fv0, show ((0 : Nat) : Rat) = 0 from rfl, Rat.zero_mul]; exact Rat.le_refl
  | succ k ih =>
    intro hk ht
    obtain ⟨a1, a2, a3⟩ := ih (by omega) (fun i hi => ht i (by omega))
    obtain ⟨b1, b2⟩ := ht k (by omega)
    have h3 := add_bd (B := ((k + 1 : Nat) : Rat) * pw E) a1 b1 (by
      rw [show ((k + 1 : Nat) : Rat) = (k : Rat) + 1 from by rw [Rat.natCast_add]; rfl, Rat.add_mul, Rat.one_mul]
      grind) (rep_pw (by omega) h1 h2)
    exact h3.2
theorem sumT_add {t : Nat → Nat} {E : Int} (h1 : -1074 ≤ E) (h2 : E ≤ 971) {k : Nat} (hk : k < 1000) (ht : ∀ i, i < k + 1 → fin (t i) ∧ ab (fv (t i)) ≤ pw E) : D.add (sumT t k) (t k) = some (sumT t (k + 1)) := by
  obtain ⟨a1, a2, a3⟩ := sumT_bd h1 h2 k (by omega) (fun i hi => ht i (by omega))
  obtain ⟨b1, b2⟩ := ht k (by omega)
  exact (add_bd (B := ((k + 1 : Nat) : Rat) * pw E) a1 b1 (by
      rw [show ((k + 1 : Nat) : Rat) = (k : Rat) + 1 from by rw [Rat.natCast_add]; rfl, Rat.add_mul, Rat.one_mul]
      grind) (rep_pw (by omega) h1 h2)).1

def dotT (xs ys : List Nat) (k : Nat) : Nat := fmul (ge xs k) (ge ys k)
/-- May two lists be counted? -/
def fitS (xs ys : List Nat) : Bool := decide (xs.length = ys.length) && allIn xs && allIn ys
theorem fitS_iff {xs ys : List Nat} : fitS xs ys = true ↔ xs.length = ys.length ∧ allIn xs = true ∧ allIn ys = true := by
  unfold fitS; rw [Bool.and_eq_true, Bool.and_eq_true, decide_eq_true_eq, and_assoc]
def dotF (xs ys : List Nat) : Nat := if fitS xs ys = true then sumT (dotT xs ys) xs.length else 0
theorem dotT_bd {xs ys : List Nat} (h : fitS xs ys = true) {i : Nat} (hi : i < xs.length) : fin (dotT xs ys i) ∧ ab (fv (dotT xs ys i)) ≤ pw 800 := by
  obtain ⟨h1, h2, h3⟩ := fitS_iff.1 h
  have := prod_in (allIn_get h2 hi) (allIn_get h3 (k := i) (by omega))
  unfold dotT
  exact ⟨this.2.1, this.2.2.1⟩

def absT (xs : List Nat) (k : Nat) : Nat := rg (ge xs k)
def sumF (xs : List Nat) : Nat := if allIn xs = true then sumT (absT xs) xs.length else 0
theorem fin_rg' {x : Nat} (h : fin x) : fin (rg x) := by unfold fin; rw [rg_rg]; exact h
theorem ab_rg (x : Nat) : ab (fv (rg x)) = ab (fv x) := by rw [ab_fv, ab_fv, rg_rg]
theorem absT_bd {xs : List Nat} (h : allIn xs = true) {i : Nat} (hi : i < xs.length) : fin (absT xs i) ∧ ab (fv (absT xs i)) ≤ pw 400 := by
  obtain ⟨h1, h2⟩ := inS_bd (allIn_get h hi)
  unfold absT
  exact ⟨fin_rg' h1, by rw [ab_rg]; exact h2⟩

/-- A product that is added to. -/
def axT (k : Nat) (xs ys : List Nat) (i : Nat) : Nat := fadd (ge ys i) (fmul k (ge xs i))
def axB (k : Nat) (xs ys : List Nat) : Bool := fitS xs ys && inS k
def axF (k : Nat) (xs ys : List Nat) : List Nat := if axB k xs ys = true then (List.range xs.length).map (axT k xs ys) else []
theorem pw_mono {a b : Int} (h : a ≤ b) : pw a ≤ pw b := pw_le h
theorem axT_bd {k : Nat} {xs ys : List Nat} (h : axB k xs ys = true) {i : Nat} (hi : i < xs.length) :
    D.mul k (ge xs i) = some (fmul k (ge xs i)) ∧ D.add (ge ys i) (fmul k (ge xs i)) = some (axT k xs ys i) ∧ fmul k (ge xs i) < 18446744073709551616 ∧ axT k xs ys i < 18446744073709551616 := by
  unfold axB at h
  rw [Bool.and_eq_true] at h
  obtain ⟨h1, h2, h3⟩ := fitS_iff.1 h.1
  have hp := prod_in h.2 (allIn_get h2 hi)
  obtain ⟨y1, y2⟩ := inS_bd (allIn_get h3 (k := i) (by omega))
  have ha := add_bd (B := ((2 : Nat) : Rat) * pw 800) y1 hp.2.1 (by
    have h5 := pw_mono (a := 400) (b := 800) (by decide)
    have := hp.2.2.1
    rw [show ((2 : Nat) : Rat) = 2 from rfl]
    grind) (rep_pw (by decide) (by decide) (by decide))
  exact ⟨hp.1, ha.1, hp.2.2.2, ha.2.2.2⟩

end Lev
