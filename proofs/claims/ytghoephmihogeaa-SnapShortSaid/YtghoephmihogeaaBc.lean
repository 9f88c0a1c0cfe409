/- Contracts of package bits: kind, Split, Top, Same. -/
import Derived.Test.YtghoephmihogeaaBb
import Derived.Test.YtghoephmihogeaaF
namespace Go.Proofs.Ytghoephmihogeaa
open Go.RowKit Lev

attribute [local go_sem] run_fbits run_frombits order_lt order_gt order_eq order_ne flt_or_feq flt_or_feq'

theorem results_tmp4 {fn : Func} {t u v x : Tmp} (h : fn.results = #[.tmp t, .tmp u, .tmp v, .tmp x]) (tmps : Array Value) (P : Program) (w : World) :
    (results fn tmps).run P w = .ok (.tuple #[tmps.getD t undef, tmps.getD u undef, tmps.getD v undef, tmps.getD x undef]) w := by simp [results, h]

theorem feq_self (b : Nat) : feq b b = decide (¬ INF < rg b) := by unfold feq; rw [decide_eq_decide]; omega

set_option maxHeartbeats 400000 in
theorem kind_any (b : Nat) (hb : b < 18446744073709551616) (w : World) :
    Calls Try.prog 48 #[.float .f64 b] w fun e w' => e = .returned (.int .i64 (kindS b)) ∧ w = w' := by
  have hs := feq_self b
  have hz := feq_zero b
  by_cases h1 : INF < rg b
  · rw [kindS_nan h1]
    rw [decide_eq_false (fun h => h h1)] at hs
    clear hz h1
    go_enter Try.func48, Try.ntmps48
    go_wp2_with (go_at_call 54; refine (isInf_any b hb _).mono ?_; rintro e w' ⟨rfl, rfl⟩)
    go_ret
    exact ⟨rfl, rfl⟩
  · rw [decide_eq_true h1] at hs
    by_cases h2 : rg b = INF
    · rw [kindS_inf h2]
      have h3 := isInf_any b hb
      rw [decide_eq_true h2] at h3
      have H3 := Lib.hid h3
      clear hz h1 h2 h3
      go_enter Try.func48, Try.ntmps48
      go_wp2_with (go_at_call 54; refine (H3.out _).mono ?_; rintro e w' ⟨rfl, rfl⟩)
      go_ret
      exact ⟨rfl, rfl⟩
    · have H3 := Lib.hid (isInf_no hb h2)
      by_cases h0 : rg b = 0
      · rw [kindS_zero h0]
        rw [decide_eq_true h0] at hz
        clear h1 h2 h0
        go_enter Try.func48, Try.ntmps48
        go_wp2_with (go_at_call 54; refine (H3.out _).mono ?_; rintro e w' ⟨rfl, rfl⟩)
        go_ret
        exact ⟨rfl, rfl⟩
      · rw [kindS_fin (by unfold fin; omega) h0]
        rw [decide_eq_false h0] at hz
        clear h1 h2 h0
        go_enter Try.func48, Try.ntmps48
        go_wp2_with (go_at_call 54; refine (H3.out _).mono ?_; rintro e w' ⟨rfl, rfl⟩)
        go_ret
        exact ⟨rfl, rfl⟩

theorem kind_is {b : Nat} {k : Int} (hb : b < 18446744073709551616) (hk : kindS b = k) (w : World) :
    Calls Try.prog 48 #[.float .f64 b] w fun e w' => e = .returned (.int .i64 k) ∧ w = w' := by
  rw [← hk]; exact kind_any b hb w

set_option maxHeartbeats 400000 in
theorem split_other (b : Nat) (hb : b < 18446744073709551616) (k : Int) (hk : kindS b = k) (h1 : k = 0 ∨ k = 2) (w : World) :
    Calls Try.prog 40 #[.float .f64 b] w fun e w' => e = .returned (.tuple #[.bool (sg b), .int .u64 0, .int .i64 0, .int .i64 k]) ∧ w = w' := by
  have H := Lib.hid (fun w => kind_is hb hk w)
  clear hk
  rcases h1 with rfl | rfl
  · go_enter Try.func40, Try.ntmps40
    go_wp2_with (first
      | (go_at_call 37; refine (signbit_any b hb _).mono ?_; rintro e w' ⟨rfl, rfl⟩)
      | (go_at_call 48; refine (H.out _).mono ?_; rintro e w' ⟨rfl, rfl⟩))
    refine bodyPost_ret (results_tmp4 rfl _ _ _) rfl ?_
    exact ⟨rfl, rfl⟩
  · go_enter Try.func40, Try.ntmps40
    go_wp2_with (first
      | (go_at_call 37; refine (signbit_any b hb _).mono ?_; rintro e w' ⟨rfl, rfl⟩)
      | (go_at_call 48; refine (H.out _).mono ?_; rintro e w' ⟨rfl, rfl⟩))
    refine bodyPost_ret (results_tmp4 rfl _ _ _) rfl ?_
    exact ⟨rfl, rfl⟩

set_option maxHeartbeats 400000 in
theorem split_nan (b : Nat) (hb : b < 18446744073709551616) (hk : kindS b = 3) (w : World) :
    Calls Try.prog 40 #[.float .f64 b] w fun e w' => e = .returned (.tuple #[.bool false, .int .u64 0, .int .i64 0, .int .i64 3]) ∧ w = w' := by
  have H := Lib.hid (fun w => kind_is hb hk w)
  clear hk
  go_enter Try.func40, Try.ntmps40
  go_wp2_with (first
    | (go_at_call 37; refine (signbit_any b hb _).mono ?_; rintro e w' ⟨rfl, rfl⟩)
    | (go_at_call 48; refine (H.out _).mono ?_; rintro e w' ⟨rfl, rfl⟩))
  refine bodyPost_ret (results_tmp4 rfl _ _ _) rfl ?_
  exact ⟨rfl, rfl⟩

theorem frexp_part (b : Nat) (hf : fin b) (h0 : rg b ≠ 0) (w : World) :
    Calls Try.prog 49 #[.float .f64 (rg b)] w fun e w' => e = .returned (.tuple #[.float .f64 (partF b), .int .i64 (topS b + 1)]) ∧ w = w' := by
  have h := Frexp_fin (rg b) (Nat.lt_trans (rg_lt b) (by decide)) (fin_rg hf) (by rw [rg_rg]; exact h0) w
  rw [frac_word, topS_rg] at h
  exact h
theorem ldexp_part (b : Nat) (h0 : rg b ≠ 0) (w : World) :
    Calls Try.prog 50 #[.float .f64 (partF b), .int .i64 53] w fun e w' => e = .returned (.float .f64 (1075 * 4503599627370496 + fracS b)) ∧ w = w' := by
  obtain ⟨h1, h2, h3, h4, h5, h6, h7⟩ := partF_facts h0
  have h := Ldexp_any (partF b) 53 (by omega) h5 (by omega) w
  rw [part_ldS h0] at h
  exact h

theorem ret_split4 {s t : Bool} {a b : Int} {i j k l : Int} (h : s = t) (h1 : a = b) (h2 : i = j) (h3 : k = l) : Ending.returned (.tuple #[.bool s, .int .u64 a, .int .i64 i, .int .i64 k]) = Ending.returned (.tuple #[.bool t, .int .u64 b, .int .i64 j, .int .i64 l]) := by rw [h, h1, h2, h3]
theorem ret_split {s t : Bool} {a b : Int} {i j : Int} (h : s = t) (h1 : a = b) (h2 : i = j) : Ending.returned (.tuple #[.bool s, .int .u64 a, .int .i64 i, .int .i64 1]) = Ending.returned (.tuple #[.bool t, .int .u64 b, .int .i64 j, .int .i64 1]) := by rw [h, h1, h2]

set_option maxHeartbeats 1000000 in
theorem split_fin (b : Nat) (hb : b < 18446744073709551616) (hf : fin b) (h0 : rg b ≠ 0) (w : World) :
    Calls Try.prog 40 #[.float .f64 b] w fun e w' => e = .returned (.tuple #[.bool (sg b), .int .u64 (mantS b), .int .i64 (expS b), .int .i64 1]) ∧ w = w' := by
  have H := Lib.hid (fun w => kind_is hb (kindS_fin hf h0) w)
  have HF := Lib.hid (fun w => frexp_part b hf h0 w)
  have HL := Lib.hid (fun w => ldexp_part b h0 w)
  have hfr := fracS_lt h0
  have hlo := topS_lo b
  have hhi := topS_hi hf
  have hc := fun (w : World) => run_convert_float_int (P := Try.prog) w 22 39 .f64 .u64 _ _ (by kernel_rfl) Try.underlying39 (toInt_whole hfr)
  have K0 := Lib.hid h0; clear h0
  have KF := Lib.hid hf; clear hf
  generalize hz : 1075 * 4503599627370496 + fracS b = z at hc HL
  clear hz
  go_enter Try.func40, Try.ntmps40
  go_wp2_with (first
    | (go_at_call 37; refine (signbit_any b hb _).mono ?_; rintro e w' ⟨rfl, rfl⟩)
    | (go_at_call 48; refine (H.out _).mono ?_; rintro e w' ⟨rfl, rfl⟩)
    | (go_at_call 42; refine (abs_any b hb _).mono ?_; rintro e w' ⟨rfl, rfl⟩)
    | (go_at_call 49; refine (HF.out _).mono ?_; rintro e w' ⟨rfl, rfl⟩)
    | (go_at_call 50; refine (HL.out _).mono ?_; rintro e w' ⟨rfl, rfl⟩))
  go_loop [9, 10] (fun e m => ∃ j N : Nat, N = (4503599627370496 + fracS b) / 2 ^ j ∧ e = .int .i64 (topS b + 1 - 53 + (j : Int)) ∧ m = .int .u64 (N : Int) ∧ (j = 0 ∨ topS b + 1 - 53 + (j : Int) ≤ -1074) ∧ N ≤ 9007199254740992) (fun e _ => (-1074 - intOf e).toNat)
  case atStart => exact ⟨0, 4503599627370496 + fracS b, by rw [Nat.pow_zero, Nat.div_one], by simp, by simp, .inl rfl, by omega⟩
  case round =>
    obtain ⟨j, N, hN, rfl, rfl, hj, hle⟩ := hrel
    have KN := Lib.hid hN; clear hN
    have KJ := Lib.hid hj
    have hjb : (j : Int) ≤ 1100 := by omega
    clear hj
    by_cases hlt : topS b + 1 - 53 + (j : Int) < -1074
    · go_wp2
      go_round
      case rel => exact ⟨j + 1, N / 2, by rw [KN.out, Nat.pow_succ, Nat.div_div_eq_div_mul], by go_num, by simp, .inr (by omega), by omega⟩
      case measure => simp [intOf]; omega
    · have hend := halving_ends K0.out hlt KJ.out
      have KE := Lib.hid hend; clear hend
      go_wp2
      refine bodyPost_ret (results_tmp4 rfl _ _ _) rfl ?_
      exact ⟨ret_split rfl (by rw [KN.out, KE.out.1]) (by rw [← KE.out.2]), rfl⟩

end Go.Proofs.Ytghoephmihogeaa
