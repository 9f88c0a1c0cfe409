/- Fading by powers of two: in plain numbers. -/
import Derived.Test.YtlkgkgnkmjbnjaaTb
import Derived.Test.YtlkgkgnkmjbnjaaFi
import Derived.Test.YtlkgkgnkmjbnjaaBf
namespace Lev
open Ieee Go.Proofs.Ytlkgkgnkmjbnjaa

/-- y is x times 2 to the power of -n, without an error. -/
def Sc (x n y : Nat) : Prop := sg y = sg x ∧ y < 18446744073709551616 ∧ fin y ∧ (rm (rg y) : Rat) * pw (-1074) = (rm (rg x) : Rat) * pw (-1074) * pw (-(n : Int))

theorem Sc.unique {x n y z : Nat} (h : Sc x n y) (h2 : Sc x n z) : y = z := by
  obtain ⟨a1, a2, _, a4⟩ := h
  obtain ⟨b1, b2, _, b4⟩ := h2
  refine eq_of_sg_rg a2 b2 (a1.trans b1.symm) (rm_inj (cancel_pw (k := -1074) (a4.trans b4.symm)))

theorem Sc.of_rep {x n r : Nat} (hr : r < INF) (h : (rm r : Rat) * pw (-1074) = (rm (rg x) : Rat) * pw (-1074) * pw (-(n : Int))) : Sc x n (D.word (sg x) r) := by
  have hI := INF_eq
  have h63 : r < 9223372036854775808 := by omega
  refine ⟨sg_word _ _ h63, word_lt64 _ _ h63, ?_, ?_⟩
  · unfold fin; rw [rg_word _ _ h63]; exact hr
  · rw [rg_word _ _ h63]; exact h

theorem expS_le {x : Nat} (h : fin x) : expS x ≤ 971 := by
  have := INF_eq
  unfold fin at h
  unfold expS
  split <;> omega

/-- What can be scaled is. -/
theorem scale_sc {x n : Nat} (hx : x < 18446744073709551616) (hf : fin x) (h : scaleB x (-(n : Int)) = true) : Sc x n (scaleF x (-(n : Int))) := by
  by_cases h0 : rg x = 0
  · have hk : kindS x = 0 := by
      have := INF_eq
      unfold kindS
      repeat' split
      all_goals omega
    have e : scaleF x (-(n : Int)) = x := by unfold scaleF; rw [if_pos hk]
    rw [e]
    refine ⟨rfl, hx, hf, ?_⟩
    rw [h0, rm_zero, show ((0 : Nat) : Rat) = 0 from rfl, Rat.zero_mul, Rat.zero_mul]
  · have hk : kindS x = 1 := kindS_fin hf h0
    unfold scaleB at h
    rw [if_neg (by omega), if_pos hk] at h
    obtain ⟨r, hr1, hr2⟩ := makeB_rep (by have := mantS_pos h0; omega) h
    have e : scaleF x (-(n : Int)) = D.word (sg x) r := by
      unfold scaleF
      rw [if_neg (by omega), if_pos hk, (make_yes (neg := sg x) hr1 hr2).2]
    rw [e]
    refine Sc.of_rep hr1 ?_
    rw [hr2, mantS_val, pw_add]; grind

/-- A part of the way. -/
theorem Sc.part {x j k z : Nat} (hf : fin x) (h : Sc x (j + k) z) : ∃ y, Sc x j y ∧ Sc y k z := by
  obtain ⟨h1, h2, h3, h4⟩ := h
  have hsplit : pw (-((j + k : Nat) : Int)) = pw (-(j : Int)) * pw (-(k : Int)) := by
    rw [← pw_add]; congr 1; omega
  have key : ∃ r, r < INF ∧ (rm r : Rat) * pw (-1074) = (rm (rg x) : Rat) * pw (-1074) * pw (-(j : Int)) := by
    by_cases he : -1074 ≤ expS x - j
    · obtain ⟨r, hr1, hr2⟩ := rep_yes (M := mantS x) (E := expS x - j) (mantS_lt x) he (by have := expS_le hf; omega)
      refine ⟨r, hr1, ?_⟩
      rw [hr2, mantS_val, show expS x - (j : Int) = expS x + -(j : Int) from by omega, pw_add]; grind
    · have hv : (rm (rg z) : Rat) * pw (-1074) * pw (k : Int) = (rm (rg x) : Rat) * pw (-1074) * pw (-(j : Int)) := by
        rw [h4, hsplit]
        have := pw_neg (k : Int)
        grind
      have hv2 : ((rm (rg z) * 2 ^ k : Nat) : Rat) * pw (-1074) = (rm (rg x) : Rat) * pw (-1074) * pw (-(j : Int)) := by
        rw [← hv, pw_nat k, Rat.natCast_mul]; grind
      have hlt : rm (rg z) * 2 ^ k < 9007199254740992 := by
        have h5 : ((rm (rg z) * 2 ^ k : Nat) : Rat) * pw (-1074) ≤ (mantS x : Rat) * pw (-1074) := by
          rw [hv2, mantS_val]
          have h6 : pw (expS x) * pw (-(j : Int)) ≤ pw (-1074) := by
            rw [← pw_add]; exact pw_le (by omega)
          have h7 := Rat.mul_le_mul_of_nonneg_left h6 (show (0 : Rat) ≤ (mantS x : Rat) from Rat.natCast_nonneg)
          grind
        have h8 := unit_le.1 h5
        have := mantS_lt x
        omega
      obtain ⟨r, hr1, hr2⟩ := rep_yes (E := -1074) hlt (by decide) (by decide)
      exact ⟨r, hr1, by rw [hr2, hv2]⟩
  obtain ⟨r, hr1, hr2⟩ := key
  have hy := Sc.of_rep (x := x) (n := j) hr1 hr2
  refine ⟨_, hy, ?_⟩
  obtain ⟨y1, y2, y3, y4⟩ := hy
  refine ⟨h1.trans y1.symm, h2, h3, ?_⟩
  rw [h4, y4, hsplit]; grind

/-- A power of two that fades. -/
def pwB (n : Nat) : Nat := makeF false 1 (-(n : Int))
theorem pwB_eq {n : Nat} (h : n ≤ 20) : pwB n = (1023 - n) * 4503599627370496 := by
  have := (makeF_pow (1023 - n) (by omega) (by omega)).2
  unfold pwB
  rw [← this]; congr 1; omega
theorem pwB_facts {n : Nat} (h : n ≤ 20) : fin (pwB n) ∧ sg (pwB n) = false ∧ fv (pwB n) = pw (-(n : Int)) ∧ mayS (pwB n) = true ∧ pwB n < 18446744073709551616 := by
  rw [pwB_eq h]
  refine ⟨fin_pow _ (by omega), ?_, ?_, ?_, by omega⟩
  · unfold sg
    rw [Nat.div_eq_of_lt (by omega)]; rfl
  · rw [fv_pow _ (by omega) (by omega)]; congr 1; omega
  · have : n = 0 ∨ n = 1 ∨ n = 2 ∨ n = 3 ∨ n = 4 ∨ n = 5 ∨ n = 6 ∨ n = 7 ∨ n = 8 ∨ n = 9 ∨ n = 10 ∨ n = 11 ∨ n = 12 ∨ n = 13 ∨ n = 14 ∨ n = 15 ∨ n = 16 ∨ n = 17 ∨ n = 18 ∨ n = 19 ∨ n = 20 := by omega
    rcases this with rfl | rfl | rfl | rfl | rfl | rfl | rfl | rfl | rfl | rfl | rfl | rfl | rfl | rfl | rfl | rfl | rfl | rfl | rfl | rfl | rfl <;> decide +kernel

theorem Sc.fmul {x n y : Nat} (hf : fin x) (hn : n ≤ 20) (h : Sc x n y) : fmul x (pwB n) = y := by
  obtain ⟨p1, p2, p3, _, _⟩ := pwB_facts hn
  obtain ⟨h1, h2, h3, h4⟩ := h
  have hm := mul_exact (a := x) (b := pwB n) (r := rg y) hf p1 h3 (by
    rw [ab_mul, ab_fv, p3, ab_pw, h4])
  unfold Lev.fmul
  rw [hm, p2, Bool.xor_false, ← h1]
  show D.word (sg y) (rg y) = y
  exact word_sg_rg y h2

/-- Two halves of the way come to the whole. -/
theorem fade_halves {xs : List Nat} {j k : Nat} (hjk : j + k ≤ 20) (hx : ∀ x ∈ xs, x < 18446744073709551616 ∧ fin x) (hs : ∀ x ∈ xs, scaleB x (-((j + k : Nat) : Int)) = true) :
    fadeL (pwB k) (fadeL (pwB j) xs) = xs.map (fun x => scaleF x (-((j + k : Nat) : Int))) ∧ fadeL (pwB (j + k)) xs = xs.map (fun x => scaleF x (-((j + k : Nat) : Int))) := by
  unfold fadeL
  rw [List.map_map]
  refine ⟨List.map_congr_left fun x h => ?_, List.map_congr_left fun x h => ?_⟩
  · have h1 := scale_sc (hx x h).1 (hx x h).2 (hs x h)
    obtain ⟨y, hy, hz⟩ := h1.part (hx x h).2
    show Lev.fmul (Lev.fmul x (pwB j)) (pwB k) = _
    rw [hy.fmul (hx x h).2 (by omega), hz.fmul hy.2.2.1 (by omega)]
  · exact (scale_sc (hx x h).1 (hx x h).2 (hs x h)).fmul (hx x h).2 hjk

end Lev
