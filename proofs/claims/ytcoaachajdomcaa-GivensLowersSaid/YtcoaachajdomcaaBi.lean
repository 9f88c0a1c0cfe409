/- Contracts of the document's Top and In. -/
import Derived.Test.YtcoaachajdomcaaBh
namespace Go.Proofs.Ytcoaachajdomcaa
open Go.RowKit Lev

attribute [local go_sem] run_fbits run_frombits order_lt order_gt order_eq order_ne flt_or_feq flt_or_feq' p_400 p400

theorem top_ends {M j : Nat} (h1 : 1 ≤ M / 2 ^ j) (h2 : M / 2 ^ j ≤ 1) : M.log2 = j := by
  have hp := Nat.two_pow_pos j
  have hdm := Nat.div_add_mod M (2 ^ j)
  have hml := Nat.mod_lt M hp
  have e : M / 2 ^ j = 1 := by omega
  rw [e, Nat.mul_one] at hdm
  exact log2_eq (by omega) (by rw [Nat.pow_succ]; omega)

set_option maxHeartbeats 400000 in
theorem rtop_any (b : Nat) (hb : b < 18446744073709551616) (w : World) :
    Calls Try.prog 41 #[.float .f64 b] w fun e w' => e = .returned (.int .i64 (topB b)) ∧ w = w' := by
  rcases kind_cases b with h | ⟨h, hf, h0⟩ | h | h
  case inr.inl =>
    have e1 : topB b = (mantS b).log2 + expS b := by unfold topB topS; rw [if_pos h]
    have H := Lib.hid (rsplit_any b hb w); rw [splitV_1 h] at H
    have hlo := expS_ge b
    have hhi := expS_hi hf
    have hm := mantS_pos h0
    have hml := mantS_lt b
    have hM : 1 ≤ mantS b := hm
    have hl := lg_le h0
    rw [e1]
    clear h e1 h0 hf
    obtain ⟨M, hMe⟩ : ∃ M, M = mantS b := ⟨_, rfl⟩
    rw [← hMe] at hm hml hl hM H ⊢
    clear hMe
    go_enter Try.func41, Try.ntmps41
    go_wp2_with (go_at_call 43; refine H.out.mono ?_; rintro e w' ⟨rfl, rfl⟩)
    go_loop [4, 5] (fun m e => ∃ j N : Nat, N = M / 2 ^ j ∧ 1 ≤ N ∧ N ≤ 9007199254740992 ∧ j ≤ M.log2 ∧ m = .int .u64 (N : Int) ∧ e = .int .i64 (expS b + (j : Int))) (fun m _ => (intOf m).toNat)
    case atStart => exact ⟨0, M, by simp, hm, by omega, by omega, rfl, by simp⟩
    case round =>
      obtain ⟨j, N, hN, hN1, hN2, hj, rfl, rfl⟩ := hrel
      have KN := Lib.hid hN; clear hN
      have KM := Lib.hid hM
      by_cases hlt : 1 < (N : Int)
      · go_wp2
        go_round
        case rel =>
          have h3 : N / 2 = M / 2 ^ (j + 1) := by rw [KN.out, Nat.pow_succ, Nat.div_div_eq_div_mul]
          refine ⟨j + 1, N / 2, h3, by omega, by omega, ?_, by simp, by go_num⟩
          rcases Nat.lt_or_ge M.log2 (j + 1) with h4 | h4
          · exfalso
            have h5 : M < 2 ^ (M.log2 + 1) := Nat.lt_log2_self
            have h6 := Nat.pow_le_pow_right (n := 2) (by decide) (show M.log2 + 1 ≤ j + 1 by omega)
            have h7 : M / 2 ^ (j + 1) = 0 := Nat.div_eq_of_lt (by omega)
            omega
          · exact h4
        case measure => simp [intOf]; omega
      · have KE := Lib.hid (top_ends (M := M) (j := j) (by rw [← KN.out]; omega) (by rw [← KN.out]; omega))
        go_wp2
        go_ret
        exact ⟨ret_int (by rw [KE.out]; omega), rfl⟩
  all_goals
    have e1 : topB b = -2000 := by unfold topB; rw [if_neg (by omega)]
    have H := Lib.hid (rsplit_any b hb w); first | rw [splitV_0 h] at H | rw [splitV_2 h] at H | rw [splitV_3 h] at H
    rw [e1]
    clear h e1
    go_enter Try.func41, Try.ntmps41
    go_wp2_with (go_at_call 43; refine H.out.mono ?_; rintro e w' ⟨rfl, rfl⟩)
    go_ret
    exact ⟨rfl, rfl⟩

set_option maxHeartbeats 400000 in
theorem rin_any (b : Nat) (hb : b < 18446744073709551616) (w : World) :
    Calls Try.prog 37 #[.float .f64 b] w fun e w' => e = .returned (.bool (inS b)) ∧ w = w' := by
  have hI := INF_eq
  have hlo := fle_lo b
  have hhi := fle_hi b
  rcases kind_cases b with h | ⟨h, hf, h0⟩ | h | h
  case inl =>
    have h0 : rg b = 0 := by
      by_cases h0 : rg b = 0
      · exact h0
      · exfalso; unfold kindS at h; repeat' split at h
        all_goals omega
    have e : inS b = true := by unfold inS; rw [decide_eq_true (.inl h0)]
    have H := Lib.hid (rsplit_any b hb w); rw [splitV_0 h] at H
    rw [e]
    clear hlo hhi h0 e hI h
    go_enter Try.func37, Try.ntmps37
    go_wp2_with (go_at_call 43; refine H.out.mono ?_; rintro e w' ⟨rfl, rfl⟩)
    go_ret
    exact ⟨rfl, rfl⟩
  case inr.inl =>
    have H := Lib.hid (rsplit_any b hb w); rw [splitV_1 h] at H
    by_cases h1 : 2805742567851819008 ≤ rg b ∧ rg b ≤ INF
    · have e : inS b = decide (rg b ≤ 6408622269748215808) := by unfold inS; rw [decide_eq_decide]; omega
      rw [decide_eq_true h1] at hlo
      rw [e, ← hhi]
      clear h0 h1 e hI hhi h hf
      go_enter Try.func37, Try.ntmps37
      go_wp2_with (first
        | (go_at_call 43; refine H.out.mono ?_; rintro e w' ⟨rfl, rfl⟩)
        | (go_at_call 21; refine (abs_any _ hb _).mono ?_; rintro e w' ⟨rfl, rfl⟩)
        | (go_at_call 42; refine (rpow_any _ _).mono ?_; rintro e w' ⟨rfl, rfl⟩))
      go_ret
      exact ⟨rfl, rfl⟩
    · have e : inS b = false := by unfold inS; rw [decide_eq_false]; omega
      rw [decide_eq_false h1] at hlo
      rw [e]
      clear h0 h1 e hI hhi h hf
      go_enter Try.func37, Try.ntmps37
      go_wp2_with (first
        | (go_at_call 43; refine H.out.mono ?_; rintro e w' ⟨rfl, rfl⟩)
        | (go_at_call 21; refine (abs_any _ hb _).mono ?_; rintro e w' ⟨rfl, rfl⟩)
        | (go_at_call 42; refine (rpow_any _ _).mono ?_; rintro e w' ⟨rfl, rfl⟩))
      go_ret
      exact ⟨rfl, rfl⟩
  all_goals
    have hbig : INF ≤ rg b := by
      unfold kindS at h; repeat' split at h
      all_goals omega
    have e : inS b = false := by unfold inS; rw [decide_eq_false]; omega
    have H := Lib.hid (rsplit_any b hb w); first | rw [splitV_2 h] at H | rw [splitV_3 h] at H
    rw [e]
    clear hlo hhi e hI h hbig
    go_enter Try.func37, Try.ntmps37
    go_wp2_with (first
      | (go_at_call 43; refine H.out.mono ?_; rintro e w' ⟨rfl, rfl⟩)
      | (go_at_call 21; refine (abs_any _ hb _).mono ?_; rintro e w' ⟨rfl, rfl⟩))
    go_ret
    exact ⟨rfl, rfl⟩

end Go.Proofs.Ytcoaachajdomcaa
