/- Contracts of the document's answers for layer 1: Make, Pow, Scale, Top, In, Same. -/
import Derived.Test.YtkhnoffhbfcgfaaBg
namespace Go.Proofs.Ytkhnoffhbfcgfaa
open Go.RowKit Lev

attribute [local go_sem] run_fbits run_frombits order_lt order_gt order_eq order_ne flt_or_feq flt_or_feq' p_400 p400

set_option maxHeartbeats 400000 in
theorem rmake_zero (neg : Bool) (e : Int) (w : World) :
    Calls Try.prog 64 #[.bool neg, .int .u64 0, .int .i64 e] w fun en w' => en = .returned (.tuple #[.float .f64 (D.word neg 0), .bool true]) ∧ w = w' := by
  cases neg
  · go_enter Try.func64, Try.ntmps64
    go_wp2
    go_ret2
    exact ⟨rfl, rfl⟩
  · go_enter Try.func64, Try.ntmps64
    go_wp2
    go_ret2
    exact ⟨ret_fb (by decide) rfl, rfl⟩
set_option maxHeartbeats 400000 in
theorem rmake_far (neg : Bool) (m : Nat) (e : Int) (h0 : ((m : Int) == 0) = false) (h : e < -2000 ∨ 2000 < e) (w : World) :
    Calls Try.prog 64 #[.bool neg, .int .u64 (m : Int), .int .i64 e] w fun en w' => en = .returned (.tuple #[.float .f64 0, .bool false]) ∧ w = w' := by
  rcases h with h | h
  · cases neg
    all_goals
      go_enter Try.func64, Try.ntmps64
      go_wp2
      go_ret2
      exact ⟨rfl, rfl⟩
  · have h2 : ¬ e < -2000 := by omega
    cases neg
    all_goals
      go_enter Try.func64, Try.ntmps64
      go_wp2
      go_ret2
      exact ⟨rfl, rfl⟩

theorem rmake_any (neg : Bool) (m : Nat) (e : Int) (hm : m < 18446744073709551616) (w : World) :
    Calls Try.prog 64 #[.bool neg, .int .u64 (m : Int), .int .i64 e] w fun en w' => en = .returned (.tuple #[.float .f64 (makeF neg m e), .bool (makeB m e)]) ∧ w = w' := by
  by_cases h0 : m = 0
  · subst h0
    have e1 : makeF neg 0 e = D.word neg 0 := by unfold makeF; rw [if_pos rfl]
    have e2 : makeB 0 e = true := by unfold makeB; simp
    rw [e1, e2]
    exact rmake_zero neg e w
  · have hne : ((m : Int) == 0) = false := by rw [beq_eq_false_iff_ne]; omega
    by_cases h1 : e < -2000
    · obtain ⟨q1, q2⟩ := make_no h0 (rep_no_far (e := e) h0 hm (by omega))
      rw [q1, q2 neg]; exact rmake_far neg m e hne (.inl h1) w
    · by_cases h2 : 2000 < e
      · obtain ⟨q1, q2⟩ := make_no h0 (rep_no_far (e := e) h0 hm (by omega))
        rw [q1, q2 neg]; exact rmake_far neg m e hne (.inr h2) w
      · cases neg
        · exact rmake_pos m e hm (by omega) hne h1 h2 w
        · exact rmake_neg m e hm (by omega) hne h1 h2 w

theorem one_far {k : Int} (h : k < -1074 ∨ 1023 < k) : makeF false 1 k = 0 ∧ makeB 1 k = false := by
  have hno : ¬ rep (((1 : Nat) : Rat) * pw k) := by
    rcases h with h | h
    · exact rep_no_odd (by decide) (.inl h)
    · refine rep_no_big ?_
      rw [show ((1 : Nat) : Rat) = 1 from rfl, Rat.one_mul]
      exact pw_le (by omega)
  obtain ⟨q1, q2⟩ := make_no (by decide) hno
  exact ⟨q2 false, q1⟩

set_option maxHeartbeats 400000 in
theorem rpow_any (k : Int) (w : World) :
    Calls Try.prog 42 #[.int .i64 k] w fun e w' => e = .returned (.float .f64 (makeF false 1 k)) ∧ w = w' := by
  by_cases h1 : k < -1074
  · rw [(one_far (.inl h1)).1]
    go_enter Try.func42, Try.ntmps42
    go_wp2
    go_ret
    exact ⟨rfl, rfl⟩
  · by_cases h2 : 1023 < k
    · rw [(one_far (.inr h2)).1]
      go_enter Try.func42, Try.ntmps42
      go_wp2
      go_ret
      exact ⟨rfl, rfl⟩
    · have H := Lib.hid (fun w => rmake_any false 1 k (by decide) w)
      go_enter Try.func42, Try.ntmps42
      go_wp2_with (go_at_call 64; refine (H.out _).mono ?_; rintro e w' ⟨rfl, rfl⟩)
      go_ret
      exact ⟨rfl, rfl⟩

theorem sameS_kind (a b : Nat) : ((kindS a == 3) && (kindS b == 3) || ((a : Int) == (b : Int))) = sameS a b := by
  have e : ∀ x : Nat, (kindS x == 3) = decide (INF < rg x) := fun x => by
    rw [Bool.eq_iff_iff, beq_iff_eq, decide_eq_true_eq]
    unfold kindS; repeat' split
    all_goals omega
  have e2 : ∀ x : Nat, (!feq x x) = decide (INF < rg x) := fun x => by unfold feq; rw [← decide_not, decide_eq_decide]; omega
  rw [sameS_eq, e, e, e2, e2]

set_option maxHeartbeats 400000 in
theorem rsame_any (a b : Nat) (ha : a < 18446744073709551616) (hb : b < 18446744073709551616) (w : World) :
    Calls Try.prog 15 #[.float .f64 a, .float .f64 b] w fun e w' => e = .returned (.bool (sameS a b)) ∧ w = w' := by
  have K := Lib.hid (sameS_kind a b)
  have H := Lib.hid (fun x hx => rsplit_any x hx)
  unfold splitV at H
  go_enter Try.func15, Try.ntmps15
  go_wp2_with fail
  refine (H.out a ha _).mono ?_
  rintro e w' ⟨rfl, rfl⟩
  go_wp2_with fail
  refine (H.out b hb _).mono ?_
  rintro e w' ⟨rfl, rfl⟩
  cases h1 : (kindS a == 3)
  · go_wp2
    go_ret
    exact ⟨ret_bool (by rw [← K.out, h1]; simp), rfl⟩
  · cases h2 : (kindS b == 3)
    · go_wp2
      go_ret
      exact ⟨ret_bool (by rw [← K.out, h1, h2]; simp), rfl⟩
    · go_wp2
      go_ret
      exact ⟨ret_bool (by rw [← K.out, h1, h2]; simp), rfl⟩

end Go.Proofs.Ytkhnoffhbfcgfaa
