/- Contracts of package bits: Split, Pow, Scale, Top, In, Same. -/
import Derived.Test.YtcoaachajdomcaaBd
import Derived.Test.YtcoaachajdomcaaF
namespace Go.Proofs.Ytcoaachajdomcaa
open Go.RowKit Lev

attribute [local go_sem] run_fbits run_frombits order_lt order_gt order_eq order_ne flt_or_feq flt_or_feq'

/-- What Split answers. -/
def splitV (b : Nat) : Value := .tuple #[.bool (nS b), .int .u64 (mS b : Int), .int .i64 (eS b), .int .i64 (kindS b)]

theorem splitV_1 {b : Nat} (h : kindS b = 1) : splitV b = .tuple #[.bool (sg b), .int .u64 (mantS b), .int .i64 (expS b), .int .i64 1] := by
  unfold splitV nS mS eS; rw [h]; simp
theorem splitV_3 {b : Nat} (h : kindS b = 3) : splitV b = .tuple #[.bool false, .int .u64 0, .int .i64 0, .int .i64 3] := by
  unfold splitV nS mS eS; rw [h]; simp
theorem splitV_0 {b : Nat} (h : kindS b = 0) : splitV b = .tuple #[.bool (sg b), .int .u64 0, .int .i64 0, .int .i64 0] := by
  unfold splitV nS mS eS; rw [h]; simp
theorem splitV_2 {b : Nat} (h : kindS b = 2) : splitV b = .tuple #[.bool (sg b), .int .u64 0, .int .i64 0, .int .i64 2] := by
  unfold splitV nS mS eS; rw [h]; simp

theorem kind_cases (b : Nat) : kindS b = 0 ∨ (kindS b = 1 ∧ fin b ∧ rg b ≠ 0) ∨ kindS b = 2 ∨ kindS b = 3 := by
  have hI := INF_eq
  by_cases h1 : INF < rg b
  · exact .inr (.inr (.inr (kindS_nan h1)))
  · by_cases h2 : rg b = INF
    · exact .inr (.inr (.inl (kindS_inf h2)))
    · by_cases h3 : rg b = 0
      · exact .inl (kindS_zero h3)
      · exact .inr (.inl ⟨kindS_fin (by unfold fin; omega) h3, by unfold fin; omega, h3⟩)

theorem split_any (b : Nat) (hb : b < 18446744073709551616) (w : World) :
    Calls Try.prog 52 #[.float .f64 b] w fun e w' => e = .returned (splitV b) ∧ w = w' := by
  rcases kind_cases b with h | ⟨h, hf, h0⟩ | h | h
  · rw [splitV_0 h]; exact split_other b hb 0 h (.inl rfl) w
  · rw [splitV_1 h]; exact split_fin b hb hf h0 w
  · rw [splitV_2 h]; exact split_other b hb 2 h (.inr rfl) w
  · rw [splitV_3 h]; exact split_nan b hb h w

set_option maxHeartbeats 400000 in
theorem pow_any (k : Int) (w : World) :
    Calls Try.prog 33 #[.int .i64 k] w fun e w' => e = .returned (.float .f64 (makeF false 1 k)) ∧ w = w' := by
  have H := Lib.hid (fun w => make_any false 1 k (by decide) w)
  cases hb : makeB 1 k
  · have h0 : makeF false 1 k = 0 := by unfold makeF; rw [if_neg (by decide), if_neg (by rw [hb]; decide)]
    rw [h0]
    rw [h0, hb] at H
    clear hb h0
    go_enter Try.func33, Try.ntmps33
    go_wp2_with (go_at_call 53; refine (H.out _).mono ?_; rintro e w' ⟨rfl, rfl⟩)
    go_ret
    exact ⟨rfl, rfl⟩
  · rw [hb] at H
    clear hb
    go_enter Try.func33, Try.ntmps33
    go_wp2_with (go_at_call 53; refine (H.out _).mono ?_; rintro e w' ⟨rfl, rfl⟩)
    go_ret
    exact ⟨rfl, rfl⟩

theorem expS_hi {b : Nat} (h : fin b) : expS b ≤ 971 := by
  have := INF_eq
  unfold fin at h
  unfold expS; split <;> omega

set_option maxHeartbeats 1000000 in
theorem scale_any (b : Nat) (k : Int) (hb : b < 18446744073709551616) (w : World) :
    Calls Try.prog 31 #[.float .f64 b, .int .i64 k] w fun e w' => e = .returned (.tuple #[.float .f64 (scaleF b k), .bool (scaleB b k)]) ∧ w = w' := by
  rcases kind_cases b with h | ⟨h, hf, h0⟩ | h | h
  · have e1 : scaleF b k = b := by unfold scaleF; rw [if_pos h]
    have e2 : scaleB b k = true := by unfold scaleB; rw [if_pos h]
    rw [e1, e2]
    have H := Lib.hid (split_any b hb w); rw [splitV_0 h] at H
    clear h e1 e2
    go_enter Try.func31, Try.ntmps31
    go_wp2_with (go_at_call 52; refine H.out.mono ?_; rintro e w' ⟨rfl, rfl⟩)
    go_ret2
    exact ⟨rfl, rfl⟩
  · have e1 : scaleF b k = makeF (sg b) (mantS b) (expS b + k) := by unfold scaleF; rw [if_neg (by omega), if_pos h]
    have e2 : scaleB b k = makeB (mantS b) (expS b + k) := by unfold scaleB; rw [if_neg (by omega), if_pos h]
    rw [e1, e2]
    have hlo := expS_ge b
    have hhi := expS_hi hf
    have hml := mantS_lt b
    have H := Lib.hid (split_any b hb w); rw [splitV_1 h] at H
    by_cases c1 : k < -5000
    · obtain ⟨q1, q2⟩ := make_no (m := mantS b) (e := expS b + k) (by have := mantS_pos h0; omega) (rep_no_far (by have := mantS_pos h0; omega) (by omega) (by omega))
      rw [q1, q2 (sg b)]
      clear q1 q2 h e1 e2 h0
      go_enter Try.func31, Try.ntmps31
      go_wp2_with (go_at_call 52; refine H.out.mono ?_; rintro e w' ⟨rfl, rfl⟩)
      go_ret2
      exact ⟨rfl, rfl⟩
    · by_cases c2 : 5000 < k
      · obtain ⟨q1, q2⟩ := make_no (m := mantS b) (e := expS b + k) (by have := mantS_pos h0; omega) (rep_no_far (by have := mantS_pos h0; omega) (by omega) (by omega))
        rw [q1, q2 (sg b)]
        clear q1 q2 h e1 e2 h0
        go_enter Try.func31, Try.ntmps31
        go_wp2_with (go_at_call 52; refine H.out.mono ?_; rintro e w' ⟨rfl, rfl⟩)
        go_ret2
        exact ⟨rfl, rfl⟩
      · have HM := Lib.hid (fun w => make_any (sg b) (mantS b) (expS b + k) (by omega) w)
        clear h e1 e2 h0 hml
        go_enter Try.func31, Try.ntmps31
        go_wp2_with (first
          | (go_at_call 52; refine H.out.mono ?_; rintro e w' ⟨rfl, rfl⟩)
          | (go_at_call 53; refine (HM.out _).mono ?_; rintro e w' ⟨rfl, rfl⟩))
        go_ret2
        exact ⟨rfl, rfl⟩
  · have e1 : scaleF b k = 0 := by unfold scaleF; rw [if_neg (by omega), if_neg (by omega)]
    have e2 : scaleB b k = false := by unfold scaleB; rw [if_neg (by omega), if_neg (by omega)]
    rw [e1, e2]
    have H := Lib.hid (split_any b hb w); rw [splitV_2 h] at H
    clear h e1 e2
    go_enter Try.func31, Try.ntmps31
    go_wp2_with (go_at_call 52; refine H.out.mono ?_; rintro e w' ⟨rfl, rfl⟩)
    go_ret2
    exact ⟨rfl, rfl⟩
  · have e1 : scaleF b k = 0 := by unfold scaleF; rw [if_neg (by omega), if_neg (by omega)]
    have e2 : scaleB b k = false := by unfold scaleB; rw [if_neg (by omega), if_neg (by omega)]
    rw [e1, e2]
    have H := Lib.hid (split_any b hb w); rw [splitV_3 h] at H
    clear h e1 e2
    go_enter Try.func31, Try.ntmps31
    go_wp2_with (go_at_call 52; refine H.out.mono ?_; rintro e w' ⟨rfl, rfl⟩)
    go_ret2
    exact ⟨rfl, rfl⟩

set_option maxHeartbeats 400000 in
theorem top_any (b : Nat) (hb : b < 18446744073709551616) (w : World) :
    Calls Try.prog 38 #[.float .f64 b] w fun e w' => e = .returned (.int .i64 (topB b)) ∧ w = w' := by
  rcases kind_cases b with h | ⟨h, hf, h0⟩ | h | h
  case inr.inl =>
    have e1 : topB b = topS b := by unfold topB; rw [if_pos h]
    have H := Lib.hid (fun w => kind_is hb h w)
    have HF := Lib.hid (fun w => Frexp_fin b hb hf h0 w)
    have hlo := topS_lo b
    have hhi := topS_hi hf
    rw [e1]
    clear h e1 h0
    go_enter Try.func38, Try.ntmps38
    go_wp2_with (first
      | (go_at_call 55; refine (H.out _).mono ?_; rintro e w' ⟨rfl, rfl⟩)
      | (go_at_call 56; refine (HF.out _).mono ?_; rintro e w' ⟨rfl, rfl⟩))
    go_ret
    exact ⟨ret_int (by omega), rfl⟩
  all_goals
    have e1 : topB b = -2000 := by unfold topB; rw [if_neg (by omega)]
    have H := Lib.hid (fun w => kind_is hb h w)
    rw [e1]
    clear h e1
    go_enter Try.func38, Try.ntmps38
    go_wp2_with (go_at_call 55; refine (H.out _).mono ?_; rintro e w' ⟨rfl, rfl⟩)
    go_ret
    exact ⟨rfl, rfl⟩

set_option maxHeartbeats 400000 in
theorem same_any (a b : Nat) (w : World) :
    Calls Try.prog 32 #[.float .f64 a, .float .f64 b] w fun e w' => e = .returned (.bool (sameS a b)) ∧ w = w' := by
  rw [sameS_eq]
  cases h1 : feq a a
  · cases h2 : feq b b
    · go_enter Try.func32, Try.ntmps32
      go_wp2
      go_ret
      exact ⟨ret_bool (by simp), rfl⟩
    · go_enter Try.func32, Try.ntmps32
      go_wp2
      go_ret
      exact ⟨ret_bool (by simp), rfl⟩
  · go_enter Try.func32, Try.ntmps32
    go_wp2
    go_ret
    exact ⟨ret_bool (by simp), rfl⟩

end Go.Proofs.Ytcoaachajdomcaa
