/- Contracts of package bits: fit, Make, Pow. -/
import Derived.Test.YtkhnoffhbfcgfaaBc
import Derived.Test.YtkhnoffhbfcgfaaF
namespace Go.Proofs.Ytkhnoffhbfcgfaa
open Go.RowKit Lev

attribute [local go_sem] run_fbits run_frombits order_lt order_gt order_eq order_ne flt_or_feq flt_or_feq'

theorem and_one {N : Nat} (h : N < 18446744073709551616) : bits .and .u64 (N : Int) 1 = ((N % 2 : Nat) : Int) := by
  have h1 := u64_and_nat N 1 h (by decide)
  rw [nat_mask1] at h1
  exact h1

theorem results_tmp3 {fn : Func} {t u v : Tmp} (h : fn.results = #[.tmp t, .tmp u, .tmp v]) (tmps : Array Value) (P : Program) (w : World) :
    (results fn tmps).run P w = .ok (.tuple #[tmps.getD t undef, tmps.getD u undef, tmps.getD v undef]) w := by simp [results, h]

/-- What fit comes to. -/
def FitPost (m : Nat) (e : Int) (w : World) (en : Ending) (w' : World) : Prop :=
  ∃ (M : Nat) (E : Int) (is : Bool), en = .returned (.tuple #[.int .u64 (M : Int), .int .i64 E, .bool is]) ∧ w = w' ∧ (M : Rat) * pw E = (m : Rat) * pw e ∧
    is = decide (M < 9007199254740992 ∧ -1074 ≤ E ∧ E ≤ 971) ∧ (M % 2 = 1 ∨ 971 ≤ E) ∧ ¬ (971 < E ∧ M < 4503599627370496)

set_option maxHeartbeats 1000000 in
set_option maxRecDepth 100000 in
theorem fit_any (m : Nat) (e : Int) (hm : m < 18446744073709551616) (h0 : 0 < m) (he : -100000 ≤ e ∧ e ≤ 100000) (w : World) :
    Calls Try.prog 79 #[.int .u64 (m : Int), .int .i64 e] w (FitPost m e w) := by
  go_enter Try.func79, Try.ntmps79
  go_wp2
  go_loop [0, 1] (fun a x => ∃ M j : Nat, M * 2 ^ j = m ∧ 0 < M ∧ a = .int .u64 (M : Int) ∧ x = .int .i64 (e + (j : Int))) (fun a _ => (intOf a).toNat)
  case atStart => exact ⟨m, 0, by simp, h0, rfl, by simp⟩
  case round =>
    obtain ⟨M, j, hM, hM0, rfl, rfl⟩ := hrel
    have hj := shift_few hM hM0 hm
    have hMm := shift_le hM
    have hand := and_one (N := M) (by omega)
    by_cases hev : M % 2 = 0
    · rw [hev] at hand
      have KM := Lib.hid hM; clear hM
      have KE := Lib.hid hev; clear hev
      go_wp2
      go_round
      case rel => exact ⟨M / 2, j + 1, shift_half KM.out KE.out, by have := KE.out; omega, by simp, by go_num⟩
      case measure => simp [intOf]; omega
    · have hodd : M % 2 = 1 := by omega
      rw [hodd] at hand
      have KV := Lib.hid (shift_val (e := e) hM)
      have KO := Lib.hid hodd
      clear hev hodd hM
      obtain ⟨E, hE⟩ : ∃ E : Int, E = e + j := ⟨_, rfl⟩
      rw [← hE] at KV ⊢
      have hE1 : -100000 ≤ E ∧ E ≤ 100064 := by omega
      clear hE
      go_wp2
      go_loop [0, 1] (fun a x => ∃ (N : Nat) (F : Int), (N : Rat) * pw F = (m : Rat) * pw e ∧ N < 18446744073709551616 ∧ 0 < N ∧ F ≤ E ∧ -100000 ≤ F ∧ (N % 2 = 1 ∨ 971 ≤ F) ∧ a = .int .u64 (N : Int) ∧ x = .int .i64 F) (fun _ x => (intOf x - 971).toNat)
      case atStart => exact ⟨M, E, KV.out, by omega, hM0, Int.le_refl _, by omega, .inl KO.out, rfl, rfl⟩
      case round =>
        obtain ⟨N, F, hN, hN64, hN0, hFE, hFlo, hNO, rfl, rfl⟩ := hrel
        have KN := Lib.hid hN; clear hN
        have KNO := Lib.hid hNO; clear hNO
        have i64 : (N : Int) < 18446744073709551616 := by omega
        have K64 := Lib.hid hN64; clear hN64
        have Km := Lib.hid hm; clear hm
        by_cases hc : 971 < F ∧ N < 4503599627370496
        · obtain ⟨hc1, hc2'⟩ := hc
          have hc2 : (N : Int) < 4503599627370496 := by omega
          clear hc2'
          go_wp2
          go_round
          case rel => exact ⟨2 * N, F - 1, by rw [double_val]; exact KN.out, by omega, by omega, by omega, by omega, .inr (by omega), by first | go_num | (congr 1; omega), by first | rfl | go_num⟩
          case measure => simp [intOf]; omega
        · have KC := Lib.hid hc
          by_cases hc1 : 971 < F
          · have hc2 : decide ((N : Int) < 4503599627370496) = false := decide_eq_false (by omega)
            clear hc
            by_cases hd1 : (N : Int) < 9007199254740992
            · have hd2 : decide (-1074 ≤ F) = true := decide_eq_true (by omega)
              have hd3 : decide (F ≤ 971) = false := decide_eq_false (by omega)
              go_wp2
              refine bodyPost_ret (results_tmp3 rfl _ _ _) rfl ?_
              exact ⟨N, F, false, rfl, rfl, KN.out, (by simp; omega), KNO.out, KC.out⟩
            · go_wp2
              refine bodyPost_ret (results_tmp3 rfl _ _ _) rfl ?_
              exact ⟨N, F, false, rfl, rfl, KN.out, (by simp; omega), KNO.out, KC.out⟩
          · clear hc
            by_cases hd1 : (N : Int) < 9007199254740992
            · by_cases hd2 : -1074 ≤ F
              · go_wp2
                refine bodyPost_ret (results_tmp3 rfl _ _ _) rfl ?_
                exact ⟨N, F, true, rfl, rfl, KN.out, (by simp; omega), KNO.out, KC.out⟩
              · go_wp2
                refine bodyPost_ret (results_tmp3 rfl _ _ _) rfl ?_
                exact ⟨N, F, false, rfl, rfl, KN.out, (by simp; omega), KNO.out, KC.out⟩
            · go_wp2
              refine bodyPost_ret (results_tmp3 rfl _ _ _) rfl ?_
              exact ⟨N, F, false, rfl, rfl, KN.out, (by simp; omega), KNO.out, KC.out⟩

theorem ret_fb {a b : Nat} {s t : Bool} (h : a = b) (h2 : s = t) : Ending.returned (.tuple #[.float .f64 a, .bool s]) = Ending.returned (.tuple #[.float .f64 b, .bool t]) := by rw [h, h2]

set_option maxHeartbeats 400000 in
theorem make_zero (neg : Bool) (e : Int) (w : World) :
    Calls Try.prog 78 #[.bool neg, .int .u64 0, .int .i64 e] w fun en w' => en = .returned (.tuple #[.float .f64 (D.word neg 0), .bool true]) ∧ w = w' := by
  cases neg
  · go_enter Try.func78, Try.ntmps78
    go_wp2
    go_ret2
    exact ⟨rfl, rfl⟩
  · go_enter Try.func78, Try.ntmps78
    go_wp2_with (go_at_call 81; refine (copysign_any 0 _ (by decide) (by decide) _).mono ?_; rintro e w' ⟨rfl, rfl⟩)
    go_ret2
    exact ⟨ret_fb (by decide) rfl, rfl⟩

set_option maxHeartbeats 400000 in
theorem make_far (neg : Bool) (m : Nat) (e : Int) (h0 : ((m : Int) != 0) = true) (h : e < -5000 ∨ 5000 < e) (w : World) :
    Calls Try.prog 78 #[.bool neg, .int .u64 (m : Int), .int .i64 e] w fun en w' => en = .returned (.tuple #[.float .f64 0, .bool false]) ∧ w = w' := by
  rcases h with h | h
  · go_enter Try.func78, Try.ntmps78
    go_wp2
    go_ret2
    exact ⟨rfl, rfl⟩
  · have h2 : ¬ e < -5000 := by omega
    go_enter Try.func78, Try.ntmps78
    go_wp2
    go_ret2
    exact ⟨rfl, rfl⟩

set_option maxHeartbeats 1000000 in
theorem make_near (neg : Bool) (m : Nat) (e : Int) (hm : m < 18446744073709551616) (hm0 : 0 < m) (h0 : ((m : Int) != 0) = true) (h1 : ¬ e < -5000) (h2 : ¬ 5000 < e) (w : World) :
    Calls Try.prog 78 #[.bool neg, .int .u64 (m : Int), .int .i64 e] w fun en w' => en = .returned (.tuple #[.float .f64 (makeF neg m e), .bool (makeB m e)]) ∧ w = w' := by
  go_enter Try.func78, Try.ntmps78
  go_wp2_with fail
  refine (fit_any m e hm hm0 (by omega) _).mono ?_
  rintro en w' ⟨M, E, is, rfl, rfl, hv, his, ho, hn⟩
  by_cases hc : M < 9007199254740992 ∧ -1074 ≤ E ∧ E ≤ 971
  · rw [decide_eq_true hc] at his
    subst his
    obtain ⟨hc1, hc2, hc3⟩ := hc
    obtain ⟨r0, hr0, hfi, hrv⟩ := ofInt_whole hc1
    obtain ⟨q1, q2, q3, q4⟩ := ldS_make hc1 hc2 hc3 hr0 hrv hv
    have hI := INF_eq
    have hb0 : r0 < 18446744073709551616 := by omega
    have hf0 : fin r0 := by unfold fin; rw [show rg r0 = r0 from Nat.mod_eq_of_lt (by omega)]; exact hr0
    have hl := ldS_lt r0 E
    have KQ := Lib.hid q3
    have KL := Lib.hid hl
    have KB := Lib.hid hb0
    have KF := Lib.hid hf0
    have K1 := Lib.hid q1
    have K4 := Lib.hid (q4 neg)
    clear q1 q2 q3 q4 hI hb0 hf0 hl hr0 hrv hv hc1 ho hn hm hm0 h0
    cases neg
    · go_wp2_with (go_at_call 80; refine (Ldexp_any _ _ KB.out KF.out (by omega) _).mono ?_; rintro e w' ⟨rfl, rfl⟩)
      go_ret2
      exact ⟨ret_fb (by rw [K4.out]; exact (word_false _).symm) (by rw [K1.out]), rfl⟩
    · go_wp2_with (first
        | (go_at_call 80; refine (Ldexp_any _ _ KB.out KF.out (by omega) _).mono ?_; rintro e w' ⟨rfl, rfl⟩)
        | (go_at_call 81; refine (copysign_any _ _ KL.out (by decide) _).mono ?_; rintro e w' ⟨rfl, rfl⟩))
      go_ret2
      exact ⟨ret_fb (by rw [K4.out, KQ.out]; rfl) (by rw [K1.out]), rfl⟩
  · rw [decide_eq_false hc] at his
    subst his
    have hno := fit_no ho hn hc
    rw [hv] at hno
    obtain ⟨q1, q2⟩ := make_no (by omega) hno
    have K1 := Lib.hid q1
    have K2 := Lib.hid (q2 neg)
    clear hno q1 q2 hc hv ho hn hm hm0 h0
    go_wp2
    go_ret2
    exact ⟨ret_fb K2.out.symm K1.out.symm, rfl⟩

theorem make_any (neg : Bool) (m : Nat) (e : Int) (hm : m < 18446744073709551616) (w : World) :
    Calls Try.prog 78 #[.bool neg, .int .u64 (m : Int), .int .i64 e] w fun en w' => en = .returned (.tuple #[.float .f64 (makeF neg m e), .bool (makeB m e)]) ∧ w = w' := by
  by_cases h0 : m = 0
  · subst h0
    have e1 : makeF neg 0 e = D.word neg 0 := by unfold makeF; rw [if_pos rfl]
    have e2 : makeB 0 e = true := by unfold makeB; simp
    rw [e1, e2]
    exact make_zero neg e w
  · have hne : ((m : Int) != 0) = true := by rw [bne_iff_ne]; omega
    by_cases h1 : e < -5000
    · obtain ⟨q1, q2⟩ := make_no h0 (rep_no_far (e := e) h0 hm (by omega))
      rw [q1, q2 neg]; exact make_far neg m e hne (.inl h1) w
    · by_cases h2 : 5000 < e
      · obtain ⟨q1, q2⟩ := make_no h0 (rep_no_far (e := e) h0 hm (by omega))
        rw [q1, q2 neg]; exact make_far neg m e hne (.inr h2) w
      · exact make_near neg m e hm (by omega) hne h1 h2 w

end Go.Proofs.Ytkhnoffhbfcgfaa
