/- The plain laws of layer 1. -/
import Derived.Test.YtcoaachajdomcaaFh
namespace Lev
open Ieee Go

theorem sameS_self (a : Nat) : sameS a a = true := by unfold sameS; exact beq_self_eq_true _

def scaleF (b : Nat) (k : Int) : Nat := if kindS b = 0 then b else if kindS b = 1 then makeF (sg b) (mantS b) (expS b + k) else 0
def scaleB (b : Nat) (k : Int) : Bool := if kindS b = 0 then true else if kindS b = 1 then makeB (mantS b) (expS b + k) else false

theorem kindS_1 {b : Nat} (h : kindS b = 1) : fin b ∧ rg b ≠ 0 := by
  have hI := INF_eq
  unfold kindS at h
  unfold fin
  repeat' split at h
  all_goals omega
theorem kindS_0 {b : Nat} (h : kindS b = 0) : rg b = 0 := by
  unfold kindS at h
  repeat' split at h
  all_goals omega
theorem kindS_2 {b : Nat} (h : 2 ≤ kindS b) : INF ≤ rg b := by
  unfold kindS at h
  repeat' split at h
  all_goals omega

theorem makeB_rep {m : Nat} {e : Int} (hm : m ≠ 0) (h : makeB m e = true) : ∃ r, r < INF ∧ (rm r : Rat) * pw (-1074) = (m : Rat) * pw e := by
  unfold makeB at h
  rw [decide_eq_false hm, Bool.false_or, Bool.and_eq_true, decide_eq_true_eq, decide_eq_true_eq] at h
  exact ⟨_, h.1, h.2⟩

theorem scale_back {x : Nat} {k : Int} (hx : x < 18446744073709551616) (h : scaleB x k = true) : scaleB (scaleF x k) (-k) = true ∧ scaleF (scaleF x k) (-k) = x := by
  by_cases h0 : kindS x = 0
  · have e : scaleF x k = x := by unfold scaleF; rw [if_pos h0]
    rw [e]
    unfold scaleB scaleF
    rw [if_pos h0, if_pos h0]
    exact ⟨rfl, rfl⟩
  · by_cases h1 : kindS x = 1
    · obtain ⟨hf, hz⟩ := kindS_1 h1
      unfold scaleB at h
      rw [if_neg h0, if_pos h1] at h
      obtain ⟨r, hr1, hr2⟩ := makeB_rep (by have := mantS_pos hz; omega) h
      have e : scaleF x k = D.word (sg x) r := by
        unfold scaleF
        rw [if_neg h0, if_pos h1, (make_yes (neg := sg x) hr1 hr2).2]
      have hI := INF_eq
      have hr63 : r < 9223372036854775808 := by omega
      have e1 : sg (D.word (sg x) r) = sg x := sg_word _ _ hr63
      have e2 : rg (D.word (sg x) r) = r := rg_word _ _ hr63
      have hv : (rm r : Rat) * pw (-1074) = (rm (rg x) : Rat) * pw (-1074) * pw k := by rw [hr2, mantS_val, pw_add]; grind
      have hr0 : r ≠ 0 := by
        intro h3
        rw [h3, rm_zero, show ((0 : Nat) : Rat) = 0 from rfl, Rat.zero_mul] at hv
        have h4 := rm_pos (Nat.pos_of_ne_zero hz)
        have h5 : (0 : Rat) < (rm (rg x) : Rat) * pw (-1074) * pw k := Rat.mul_pos (Rat.mul_pos (Rat.natCast_pos.2 h4) (pw_pos _)) (pw_pos _)
        rw [← hv] at h5
        exact absurd h5 Rat.lt_irrefl
      have hk : kindS (D.word (sg x) r) = 1 := kindS_fin (by unfold fin; rw [e2]; exact hr1) (by rw [e2]; exact hr0)
      have hm : (mantS (D.word (sg x) r) : Rat) * pw (expS (D.word (sg x) r) + -k) = (rm (rg x) : Rat) * pw (-1074) := by
        rw [pw_add, ← Rat.mul_assoc, ← mantS_val, e2, hv]
        have := pw_neg k
        grind
      have hmk := make_yes (neg := sg x) hf hm.symm
      rw [e]
      unfold scaleB scaleF
      rw [if_neg (by omega), if_pos hk, if_neg (by omega), if_pos hk, e1, hmk.1, hmk.2, word_sg_rg x hx]
      exact ⟨rfl, rfl⟩
    · unfold scaleB at h
      rw [if_neg h0, if_neg h1] at h
      cases h

theorem split_make {x : Nat} (hx : x < 18446744073709551616) (h : kindS x ≤ 1) : makeB (mS x) (eS x) = true ∧ makeF (nS x) (mS x) (eS x) = x := by
  have hb := kindS_bounds x
  rcases (by omega : kindS x = 0 ∨ kindS x = 1) with h0 | h1
  · have e1 : mS x = 0 := by unfold mS; rw [if_neg (by omega)]
    have e3 : nS x = sg x := by unfold nS; rw [h0]; rfl
    rw [e1, e3]
    unfold makeB makeF
    refine ⟨by simp, ?_⟩
    rw [if_pos rfl, ← kindS_0 h0, word_sg_rg x hx]
  · obtain ⟨hf, hz⟩ := kindS_1 h1
    have e1 : mS x = mantS x := by unfold mS; rw [if_pos h1]
    have e2 : eS x = expS x := by unfold eS; rw [if_pos h1]
    have e3 : nS x = sg x := by unfold nS; rw [h1]; rfl
    have hmk := make_yes (neg := sg x) hf (mantS_val x)
    rw [e1, e2, e3, hmk.1, hmk.2, word_sg_rg x hx]
    exact ⟨rfl, rfl⟩

theorem split_facts {x : Nat} (h : kindS x = 1) : 1 ≤ mS x ∧ mS x < 9007199254740992 ∧ -1074 ≤ eS x ∧ (4503599627370496 ≤ mS x ∨ eS x = -1074) ∧ eS x ≤ topB x ∧ topB x ≤ eS x + 52 := by
  obtain ⟨hf, hz⟩ := kindS_1 h
  have e1 : mS x = mantS x := by unfold mS; rw [if_pos h]
  have e2 : eS x = expS x := by unfold eS; rw [if_pos h]
  have e4 : topB x = topS x := by unfold topB; rw [if_pos h]
  rw [e1, e2, e4]
  refine ⟨mantS_pos hz, mantS_lt x, expS_ge x, ?_, ?_, ?_⟩
  · unfold mantS expS
    by_cases h1 : rg x < 4503599627370496
    · right; rw [if_pos h1]
    · left; rw [if_neg h1]; omega
  · unfold topS; omega
  · have := lg_le hz; unfold topS; omega

theorem inS_no {x : Nat} (h : 2 ≤ kindS x) : inS x = false := by
  have := kindS_2 h
  have := INF_eq
  unfold inS; rw [decide_eq_false]; omega
theorem topB_no {x : Nat} (h : kindS x ≠ 1) : topB x = -2000 := by unfold topB; rw [if_neg h]

end Lev
