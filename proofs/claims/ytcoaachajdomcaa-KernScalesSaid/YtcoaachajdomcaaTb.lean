/- Fading: what it comes to, in plain numbers and lists. -/
import Derived.Test.YtcoaachajdomcaaTa
namespace Lev
open Ieee

/-- May a number fade? -/
def mayS (b : Nat) : Bool := fle 4517110426252607488 b && fle b 4607182418800017408
def fmul (x b : Nat) : Nat := (D.mul x b).getD 0
def fadeL (b : Nat) (xs : List Nat) : List Nat := xs.map (fun x => fmul x b)

theorem may_facts {b : Nat} (h : mayS b = true) : fin b ∧ sg b = false ∧ 4517110426252607488 ≤ rg b ∧ rg b ≤ 4607182418800017408 := by
  have hI := INF_eq
  unfold mayS fle at h
  rw [Bool.and_eq_true, decide_eq_true_eq, decide_eq_true_eq] at h
  have e1 : ord 4517110426252607488 = 4517110426252607488 := by decide
  have e2 : ord 4607182418800017408 = 4607182418800017408 := by decide
  rw [e1, e2] at h
  unfold ord at h
  cases hs : sg b
  · rw [hs] at h; simp at h
    exact ⟨by unfold fin; omega, rfl, by omega, by omega⟩
  · rw [hs] at h; simp at h
    exfalso; omega

theorem fv_one : fv 4607182418800017408 = 1 := by rw [c0, pw_zero]
theorem may_le {b : Nat} (h : mayS b = true) : 0 ≤ fv b ∧ fv b ≤ 1 := by
  obtain ⟨hf, hs, h1, h2⟩ := may_facts h
  have hn : fv b = (rm (rg b) : Rat) * pw (-1074) := by unfold fv; rw [hs]; rfl
  constructor
  · rw [hn]; exact Rat.mul_nonneg Rat.natCast_nonneg (Rat.le_of_lt (pw_pos _))
  · rw [← fv_one, fv_le]
    unfold ord
    rw [hs]
    have : sg 4607182418800017408 = false := by decide
    rw [this]
    have : rg 4607182418800017408 = 4607182418800017408 := by decide
    rw [this]
    simp; omega

/-- What is faded: its bits, its sign, its size. -/
theorem fmul_spec {x b : Nat} (hx : fin x) (hb : mayS b = true) : ∃ r, D.mul x b = some (D.word (sg x) r) ∧ fmul x b = D.word (sg x) r ∧ r ≤ rg x ∧ IsRnd (ab (fv x * fv b)) r := by
  obtain ⟨hf, hs, _, _⟩ := may_facts hb
  obtain ⟨h0, h1⟩ := may_le hb
  obtain ⟨r, hr1, hr2⟩ := mul_spec hx hf
  rw [hs, Bool.xor_false] at hr1
  refine ⟨r, hr1, by unfold fmul; rw [hr1]; rfl, ?_, hr2⟩
  have h2 : IsRnd (ab (fv x)) (rg x) := by rw [ab_fv]; exact IsRnd.exact hx
  refine hr2.mono h2 ?_
  rw [ab_mul]
  have h3 : ab (fv b) = fv b := by unfold ab; rw [if_neg (by grind)]
  rw [h3]
  have := Rat.mul_le_mul_of_nonneg_left h1 (ab_nonneg (fv x))
  grind
theorem fmul_facts {x b : Nat} (hx : fin x) (hb : mayS b = true) : sg (fmul x b) = sg x ∧ rg (fmul x b) ≤ rg x ∧ fmul x b < 18446744073709551616 := by
  obtain ⟨r, _, h2, h3, _⟩ := fmul_spec hx hb
  have h4 : r < 9223372036854775808 := Nat.lt_of_le_of_lt h3 (rg_lt x)
  rw [h2]
  exact ⟨sg_word _ _ h4, by rw [rg_word _ _ h4]; exact h3, word_lt64 _ _ h4⟩
theorem fmul_small {x b : Nat} (hx : small x = true) (hb : mayS b = true) : small (fmul x b) = true := by
  obtain ⟨_, h, _⟩ := fmul_facts (small_fin hx) hb
  unfold small at hx ⊢
  rw [decide_eq_true_eq] at hx ⊢
  omega

theorem fadeL_length (b : Nat) (xs : List Nat) : (fadeL b xs).length = xs.length := List.length_map _
theorem fadeL_get {b j : Nat} {xs : List Nat} (hj : j < xs.length) : (fadeL b xs)[j]?.getD 0 = fmul (xs[j]?.getD 0) b := by
  unfold fadeL
  rw [List.getElem?_map, List.getElem?_eq_getElem hj]; rfl

theorem check_len {C : Int} {xs : List Nat} {R T : Int} (h : checkS C xs R T = true) : 1 ≤ C ∧ C ≤ 6 ∧ xs.length = st (C + 1).toNat (C + 1).toNat ∧ 0 ≤ R ∧ R ≤ 200 ∧ 0 ≤ T ∧ T ≤ 4096 ∧ xs.length ≤ 28 ∧ rowsOk (C + 1).toNat xs = true := by
  unfold checkS headOk at h
  rw [Bool.and_eq_true, decide_eq_true_eq] at h
  obtain ⟨⟨h1, h2, h3, h4, h5, h6, h7⟩, h8⟩ := h
  have h9 := size_st (N := (C + 1).toNat) h1 h2 (by omega)
  have h10 : xs.length = st (C + 1).toNat (C + 1).toNat := by omega
  refine ⟨h1, h2, h10, h4, h5, h6, h7, ?_, h8⟩
  have := st_all (C + 1).toNat
  have h3 : (C + 1).toNat ≤ 7 := by omega
  have := Nat.mul_le_mul h3 h3
  omega
theorem check_small {C : Int} {xs : List Nat} {R T : Int} (h : checkS C xs R T = true) {j : Nat} (hj : j < xs.length) : small (xs[j]?.getD 0) = true :=
  ((rowsOk_iff (check_len h).2.2.1).1 (check_len h).2.2.2.2.2.2.2.2).1 j hj
theorem check_small' {C : Int} {xs : List Nat} {R T : Int} (h : checkS C xs R T = true) {x : Nat} (hx : x ∈ xs) : small x = true := by
  rw [List.mem_iff_getElem] at hx
  obtain ⟨j, hj, rfl⟩ := hx
  have := check_small h hj
  rw [List.getElem?_eq_getElem hj] at this
  exact this

/-- What may be and is faded may be. -/
theorem fade_check {C : Int} {xs : List Nat} {R T T' : Int} {b : Nat} (h : checkS C xs R T = true) (hb : mayS b = true) (hT : 0 ≤ T') (hT2 : T' ≤ 4096) : checkS C (fadeL b xs) R T' = true := by
  obtain ⟨h1, h2, h3, h4, h5, h6, h7, _, h8⟩ := check_len h
  have h9 := size_st (N := (C + 1).toNat) h1 h2 (by omega)
  have hl := fadeL_length b xs
  obtain ⟨k1, k2⟩ := (rowsOk_iff h3).1 h8
  unfold checkS headOk
  rw [Bool.and_eq_true, decide_eq_true_eq, hl]
  refine ⟨⟨h1, h2, by omega, h4, h5, hT, hT2⟩, (rowsOk_iff (by rw [hl]; exact h3)).2 ⟨fun j hj => ?_, fun i hi => ?_⟩⟩
  · rw [hl] at hj
    rw [fadeL_get hj]; exact fmul_small (k1 j hj) hb
  · have hlt : st (C + 1).toNat i < xs.length := by
      have a1 := st_le (N := (C + 1).toNat) (k := i + 1) (m := (C + 1).toNat) (by omega)
      have a2 := st_succ (C + 1).toNat i
      omega
    rw [fadeL_get hlt, (fmul_facts (small_fin (k1 _ hlt)) hb).1]
    exact k2 i hi

/-- Faded again and again. -/
def fadeN (b : Nat) : Nat → List Nat → List Nat
  | 0, xs => xs
  | k + 1, xs => fadeL b (fadeN b k xs)
theorem fadeN_length (b k : Nat) (xs : List Nat) : (fadeN b k xs).length = xs.length := by
  induction k with
  | zero => rfl
  | succ k ih => unfold fadeN; rw [fadeL_length, ih]
theorem fadeN_small {b k : Nat} {xs : List Nat} (hb : mayS b = true) (h : ∀ x ∈ xs, small x = true) : ∀ x ∈ fadeN b k xs, small x = true := by
  induction k with
  | zero => exact h
  | succ k ih =>
    intro x hx
    unfold fadeN fadeL at hx
    rw [List.mem_map] at hx
    obtain ⟨y, hy, rfl⟩ := hx
    exact fmul_small (ih y hy) hb

/-- A factor. -/
structure Fct where
  C : Int
  xs : List Nat
  R : Int
  T : Int
def Fct.zero : Fct := ⟨0, [], 0, 0⟩
def Fct.ok (f : Fct) : Bool := checkS f.C f.xs f.R f.T

/-- What fade.Often answers. -/
def oftenE (f : Fct) (b : Nat) (k : Int) : Int := if f.ok = false ∨ k < 0 then 1 else if mayS b = false then 12 else if 4096 - f.T < k then 6 else 0
def oftenF (f : Fct) (b : Nat) (k : Int) : Fct := if oftenE f b k = 0 then ⟨f.C, fadeN b k.toNat f.xs, f.R, f.T + k⟩ else Fct.zero

theorem oftenE_ok {f : Fct} {b : Nat} {k : Int} : oftenE f b k = 0 ↔ f.ok = true ∧ 0 ≤ k ∧ mayS b = true ∧ k ≤ 4096 - f.T := by
  unfold oftenE
  constructor
  · intro h
    by_cases h1 : f.ok = false ∨ k < 0
    · rw [if_pos h1] at h; omega
    · rw [if_neg h1] at h
      by_cases h2 : mayS b = false
      · rw [if_pos h2] at h; omega
      · rw [if_neg h2] at h
        by_cases h3 : 4096 - f.T < k
        · rw [if_pos h3] at h; omega
        · refine ⟨?_, by omega, by simpa using h2, by omega⟩
          cases hf : f.ok
          · exact absurd (.inl hf) h1
          · rfl
  · rintro ⟨h1, h2, h3, h4⟩
    rw [if_neg (by rw [h1]; simp; omega), if_neg (by rw [h3]; decide), if_neg (by omega)]

theorem oftenF_len (f : Fct) (b : Nat) (k : Int) : (oftenF f b k).xs.length ≤ f.xs.length := by
  unfold oftenF
  split
  · show (fadeN b k.toNat f.xs).length ≤ _
    rw [fadeN_length]; exact Nat.le_refl _
  · exact Nat.zero_le _

end Lev
