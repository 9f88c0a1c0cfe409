/- Contracts of math.Frexp and math.Ldexp on floats that are numbers. -/
import Derived.Test.YtkhnoffhbfcgfaaBa
import Derived.Test.YtkhnoffhbfcgfaaF
namespace Go.Proofs.Ytkhnoffhbfcgfaa
open Go.RowKit Lev

attribute [local go_sem] run_fbits run_frombits order_lt order_gt order_eq order_ne flt_or_feq flt_or_feq'

theorem isInf_no {b : Nat} (hb : b < 18446744073709551616) (h : rg b ≠ INF) (w : World) :
    Calls Try.prog 19 #[.float .f64 b, .int .i64 0] w fun e w' => e = .returned (.bool false) ∧ w = w' := by
  have := isInf_any b hb w
  rw [decide_eq_false h] at this
  exact this
theorem isNaN_no {b : Nat} (h : ¬ INF < rg b) (w : World) :
    Calls Try.prog 39 #[.float .f64 b] w fun e w' => e = .returned (.bool false) ∧ w = w' := by
  have := isNaN_any b w
  rw [decide_eq_false h] at this
  exact this

theorem ret_fi {a b : Nat} {i j : Int} (h : a = b) (h2 : i = j) : Ending.returned (.tuple #[.float .f64 a, .int .i64 i]) = Ending.returned (.tuple #[.float .f64 b, .int .i64 j]) := by rw [h, h2]
theorem nexp_bounds (b : Nat) : -52 ≤ nexp b ∧ nexp b ≤ 0 := by unfold nexp; split <;> omega
theorem mod52 (x : Nat) : x % 4503599627370496 = rg x % 4503599627370496 := by unfold rg; omega
theorem efield (b : Nat) : rg b / 4503599627370496 < 2048 := by have := rg_lt b; omega

set_option maxHeartbeats 400000 in
theorem Inf_pos (w : World) : Calls Try.prog 85 #[.int .i64 1] w fun e w' => e = .returned (.float .f64 INF) ∧ w = w' := by
  go_enter Try.func85, Try.ntmps85
  go_wp2
  go_ret
  exact ⟨rfl, rfl⟩
set_option maxHeartbeats 400000 in
theorem Inf_neg (w : World) : Calls Try.prog 85 #[.int .i64 (-1)] w fun e w' => e = .returned (.float .f64 (D.word true INF)) ∧ w = w' := by
  go_enter Try.func85, Try.ntmps85
  go_wp2
  go_ret
  exact ⟨ret_float (by decide), rfl⟩

set_option maxHeartbeats 400000 in
theorem ldexp_zero (b : Nat) (k : Int) (h0 : rg b = 0) (w : World) :
    Calls Try.prog 80 #[.float .f64 b, .int .i64 k] w fun e w' => e = .returned (.float .f64 b) ∧ w = w' := by
  have hz : feq b 0 = true := by rw [feq_zero, decide_eq_true h0]
  clear h0
  go_enter Try.func80, Try.ntmps80
  go_wp2
  go_ret
  exact ⟨rfl, rfl⟩

set_option maxHeartbeats 400000 in
theorem ldexp_low (b : Nat) (k : Int) (hb : b < 18446744073709551616) (hf : fin b) (h0 : rg b ≠ 0) (hk : -1099511627776 ≤ k ∧ k ≤ 1099511627776) (hlow : topS b + k < -1075) (w : World) :
    Calls Try.prog 83 #[.float .f64 b, .int .i64 k] w fun e w' => e = .returned (.float .f64 (ldS b k)) ∧ w = w' := by
  have hz : feq b 0 = false := by rw [feq_zero, decide_eq_false h0]
  have h1 : rg b ≠ INF := fun h => by unfold fin at hf; omega
  have h2 : ¬ INF < rg b := fun h => by unfold fin at hf; omega
  have kn := nrm_lt hb h0
  have k1 := get_exp64 kn
  have k2 := clear_exp kn
  rw [sg_nrm h0, mod52, rg_nrm_mod h0] at k2
  have k4 := rg_nrm_div h0
  have k5 := nexp_bounds b
  have k6 := efield (nrm b)
  obtain ⟨q, hq⟩ : ∃ q, q = rg (nrm b) / 4503599627370496 := ⟨_, rfl⟩
  rw [← hq] at k1 k4 k6
  rw [ldS_low h0 hlow]
  have klow : k + nexp b + ((q : Int) - 1023) < -1075 := by omega
  have K4 := Lib.hid k4; clear k4
  have KQ := Lib.hid hq; clear hq
  have KS := Lib.hid (sg_nrm h0)
  have K1 := Lib.hid h1; clear h1
  have K2 := Lib.hid h2; clear h2
  have K0 := Lib.hid h0; clear h0
  have KF := Lib.hid hf; clear hf
  go_enter Try.func83, Try.ntmps83
  go_wp2_with (first
    | (go_at_call 19; refine (isInf_no hb K1.out _).mono ?_; rintro e w' ⟨rfl, rfl⟩)
    | (go_at_call 39; refine (isNaN_no K2.out _).mono ?_; rintro e w' ⟨rfl, rfl⟩)
    | (go_at_call 84; refine (normalize_any _ hb K0.out _).mono ?_; rintro e w' ⟨rfl, rfl⟩)
    | (go_at_call 81; refine (copysign_any 0 _ (by decide) kn _).mono ?_; rintro e w' ⟨rfl, rfl⟩)
    | (go_at_call 85; refine (Inf_neg _).mono ?_; rintro e w' ⟨rfl, rfl⟩)
    | (go_at_call 85; refine (Inf_pos _).mono ?_; rintro e w' ⟨rfl, rfl⟩))
  go_ret
  exact ⟨ret_float (by rw [KS.out]; rfl), rfl⟩

set_option maxHeartbeats 400000 in
theorem ldexp_high_pos (b : Nat) (k : Int) (hb : b < 18446744073709551616) (hf : fin b) (h0 : rg b ≠ 0) (hk : -1099511627776 ≤ k ∧ k ≤ 1099511627776) (hhi : 1023 < topS b + k) (hs : sg b = false) (w : World) :
    Calls Try.prog 83 #[.float .f64 b, .int .i64 k] w fun e w' => e = .returned (.float .f64 (ldS b k)) ∧ w = w' := by
  have hz : feq b 0 = false := by rw [feq_zero, decide_eq_false h0]
  have h1 : rg b ≠ INF := fun h => by unfold fin at hf; omega
  have h2 : ¬ INF < rg b := fun h => by unfold fin at hf; omega
  have kn := nrm_lt hb h0
  have k1 := get_exp64 kn
  have k2 := clear_exp kn
  rw [sg_nrm h0, mod52, rg_nrm_mod h0] at k2
  have k4 := rg_nrm_div h0
  have k5 := nexp_bounds b
  have k6 := efield (nrm b)
  obtain ⟨q, hq⟩ : ∃ q, q = rg (nrm b) / 4503599627370496 := ⟨_, rfl⟩
  rw [← hq] at k1 k4 k6
  rw [ldS_high h0 hhi, hs]
  have klow : 1023 < k + nexp b + ((q : Int) - 1023) := by omega
  have klo2 : ¬ k + nexp b + ((q : Int) - 1023) < -1075 := by omega
  have hlt : flt (nrm b) 0 = false := by
    have h3 : rg (nrm b) ≠ 0 := by have := rg_nrm_ge h0; omega
    have h4 : rg (nrm b) ≤ INF := by
      unfold nrm; unfold fin at hf; have := INF_eq; split
      · have := lg_sub h0 (by assumption); have := shifted h0; rw [rg_word _ _ (by omega)]; omega
      · omega
    rw [flt_zero h4 h3, sg_nrm h0, hs]
  clear hs k2
  have K4 := Lib.hid k4; clear k4
  have KQ := Lib.hid hq; clear hq
  have KS := Lib.hid (sg_nrm h0)
  have K1 := Lib.hid h1; clear h1
  have K2 := Lib.hid h2; clear h2
  have K0 := Lib.hid h0; clear h0
  have KF := Lib.hid hf; clear hf
  go_enter Try.func83, Try.ntmps83
  go_wp2_with (first
    | (go_at_call 19; refine (isInf_no hb K1.out _).mono ?_; rintro e w' ⟨rfl, rfl⟩)
    | (go_at_call 39; refine (isNaN_no K2.out _).mono ?_; rintro e w' ⟨rfl, rfl⟩)
    | (go_at_call 84; refine (normalize_any _ hb K0.out _).mono ?_; rintro e w' ⟨rfl, rfl⟩)
    | (go_at_call 81; refine (copysign_any 0 _ (by decide) kn _).mono ?_; rintro e w' ⟨rfl, rfl⟩)
    | (go_at_call 85; refine (Inf_neg _).mono ?_; rintro e w' ⟨rfl, rfl⟩)
    | (go_at_call 85; refine (Inf_pos _).mono ?_; rintro e w' ⟨rfl, rfl⟩))
  go_ret
  exact ⟨rfl, rfl⟩

set_option maxHeartbeats 400000 in
theorem ldexp_high_neg (b : Nat) (k : Int) (hb : b < 18446744073709551616) (hf : fin b) (h0 : rg b ≠ 0) (hk : -1099511627776 ≤ k ∧ k ≤ 1099511627776) (hhi : 1023 < topS b + k) (hs : sg b = true) (w : World) :
    Calls Try.prog 83 #[.float .f64 b, .int .i64 k] w fun e w' => e = .returned (.float .f64 (ldS b k)) ∧ w = w' := by
  have hz : feq b 0 = false := by rw [feq_zero, decide_eq_false h0]
  have h1 : rg b ≠ INF := fun h => by unfold fin at hf; omega
  have h2 : ¬ INF < rg b := fun h => by unfold fin at hf; omega
  have kn := nrm_lt hb h0
  have k1 := get_exp64 kn
  have k2 := clear_exp kn
  rw [sg_nrm h0, mod52, rg_nrm_mod h0] at k2
  have k4 := rg_nrm_div h0
  have k5 := nexp_bounds b
  have k6 := efield (nrm b)
  obtain ⟨q, hq⟩ : ∃ q, q = rg (nrm b) / 4503599627370496 := ⟨_, rfl⟩
  rw [← hq] at k1 k4 k6
  rw [ldS_high h0 hhi, hs]
  have klow : 1023 < k + nexp b + ((q : Int) - 1023) := by omega
  have klo2 : ¬ k + nexp b + ((q : Int) - 1023) < -1075 := by omega
  have hlt : flt (nrm b) 0 = true := by
    have h3 : rg (nrm b) ≠ 0 := by have := rg_nrm_ge h0; omega
    have h4 : rg (nrm b) ≤ INF := by
      unfold nrm; unfold fin at hf; have := INF_eq; split
      · have := lg_sub h0 (by assumption); have := shifted h0; rw [rg_word _ _ (by omega)]; omega
      · omega
    rw [flt_zero h4 h3, sg_nrm h0, hs]
  clear hs k2
  have K4 := Lib.hid k4; clear k4
  have KQ := Lib.hid hq; clear hq
  have KS := Lib.hid (sg_nrm h0)
  have K1 := Lib.hid h1; clear h1
  have K2 := Lib.hid h2; clear h2
  have K0 := Lib.hid h0; clear h0
  have KF := Lib.hid hf; clear hf
  go_enter Try.func83, Try.ntmps83
  go_wp2_with (first
    | (go_at_call 19; refine (isInf_no hb K1.out _).mono ?_; rintro e w' ⟨rfl, rfl⟩)
    | (go_at_call 39; refine (isNaN_no K2.out _).mono ?_; rintro e w' ⟨rfl, rfl⟩)
    | (go_at_call 84; refine (normalize_any _ hb K0.out _).mono ?_; rintro e w' ⟨rfl, rfl⟩)
    | (go_at_call 81; refine (copysign_any 0 _ (by decide) kn _).mono ?_; rintro e w' ⟨rfl, rfl⟩)
    | (go_at_call 85; refine (Inf_neg _).mono ?_; rintro e w' ⟨rfl, rfl⟩)
    | (go_at_call 85; refine (Inf_pos _).mono ?_; rintro e w' ⟨rfl, rfl⟩))
  go_ret
  exact ⟨rfl, rfl⟩

set_option maxHeartbeats 400000 in
theorem ldexp_normal (b : Nat) (k : Int) (hb : b < 18446744073709551616) (hf : fin b) (h0 : rg b ≠ 0) (hk : -1099511627776 ≤ k ∧ k ≤ 1099511627776) (hn1 : -1022 ≤ topS b + k) (hn2 : topS b + k ≤ 1023) (w : World) :
    Calls Try.prog 83 #[.float .f64 b, .int .i64 k] w fun e w' => e = .returned (.float .f64 (ldS b k)) ∧ w = w' := by
  have hz : feq b 0 = false := by rw [feq_zero, decide_eq_false h0]
  have h1 : rg b ≠ INF := fun h => by unfold fin at hf; omega
  have h2 : ¬ INF < rg b := fun h => by unfold fin at hf; omega
  have kn := nrm_lt hb h0
  have k1 := get_exp64 kn
  have k2 := clear_exp kn
  rw [sg_nrm h0, mod52, rg_nrm_mod h0] at k2
  have k4 := rg_nrm_div h0
  have k5 := nexp_bounds b
  have k6 := efield (nrm b)
  obtain ⟨q, hq⟩ : ∃ q, q = rg (nrm b) / 4503599627370496 := ⟨_, rfl⟩
  rw [← hq] at k1 k4 k6
  obtain ⟨E, hE⟩ : ∃ E : Nat, (E : Int) = topS b + k + 1023 := ⟨(topS b + k + 1023).toNat, by omega⟩
  have hE1 : 1 ≤ E := by omega
  have hE2 : E ≤ 2046 := by omega
  rw [ldS_normal h0 hE1 hE2 hE]
  have klo2 : ¬ k + nexp b + ((q : Int) - 1023) < -1075 := by omega
  have klo3 : ¬ 1023 < k + nexp b + ((q : Int) - 1023) := by omega
  have klo4 : ¬ k + nexp b + ((q : Int) - 1023) < -1022 := by omega
  have k3 : bits .or .u64 (D.word (sg b) (fracS b) : Int) ((k + nexp b + ((q : Int) - 1023) + 1023) * 4503599627370496) = (zfl b E : Int) := by
    have h5 := put_exp (sg b) (fracS b) E (fracS_lt h0) (by omega)
    have h6 : ((E * 4503599627370496 : Nat) : Int) = (k + nexp b + ((q : Int) - 1023) + 1023) * 4503599627370496 := by omega
    rw [h6] at h5; exact h5
  have hm : floatBits .mul .f64 4607182418800017408 (zfl b E) = some (zfl b E) := one_mul_zfl h0 hE2
  have hrun := fun (w : World) => run_float_arith (P := Try.prog) w .mul 26 .f64 _ _ _ hm
  clear hm
  have KE := Lib.hid hE; clear hE
  have K4 := Lib.hid k4; clear k4
  have KQ := Lib.hid hq; clear hq
  have KS := Lib.hid (sg_nrm h0)
  have K1 := Lib.hid h1; clear h1
  have K2 := Lib.hid h2; clear h2
  have K0 := Lib.hid h0; clear h0
  have KF := Lib.hid hf; clear hf
  go_enter Try.func83, Try.ntmps83
  go_wp2_with (first
    | (go_at_call 19; refine (isInf_no hb K1.out _).mono ?_; rintro e w' ⟨rfl, rfl⟩)
    | (go_at_call 39; refine (isNaN_no K2.out _).mono ?_; rintro e w' ⟨rfl, rfl⟩)
    | (go_at_call 84; refine (normalize_any _ hb K0.out _).mono ?_; rintro e w' ⟨rfl, rfl⟩)
    | (go_at_call 81; refine (copysign_any 0 _ (by decide) kn _).mono ?_; rintro e w' ⟨rfl, rfl⟩)
    | (go_at_call 85; refine (Inf_neg _).mono ?_; rintro e w' ⟨rfl, rfl⟩)
    | (go_at_call 85; refine (Inf_pos _).mono ?_; rintro e w' ⟨rfl, rfl⟩))
  go_ret
  exact ⟨rfl, rfl⟩


set_option maxHeartbeats 400000 in
theorem ldexp_denormal (b : Nat) (k : Int) (hb : b < 18446744073709551616) (hf : fin b) (h0 : rg b ≠ 0) (hk : -1099511627776 ≤ k ∧ k ≤ 1099511627776) (hn1 : -1075 ≤ topS b + k) (hn2 : topS b + k < -1022) (w : World) :
    Calls Try.prog 83 #[.float .f64 b, .int .i64 k] w fun e w' => e = .returned (.float .f64 (ldS b k)) ∧ w = w' := by
  have hz : feq b 0 = false := by rw [feq_zero, decide_eq_false h0]
  have h1 : rg b ≠ INF := fun h => by unfold fin at hf; omega
  have h2 : ¬ INF < rg b := fun h => by unfold fin at hf; omega
  have kn := nrm_lt hb h0
  have k1 := get_exp64 kn
  have k2 := clear_exp kn
  rw [sg_nrm h0, mod52, rg_nrm_mod h0] at k2
  have k4 := rg_nrm_div h0
  have k5 := nexp_bounds b
  have k6 := efield (nrm b)
  obtain ⟨q, hq⟩ : ∃ q, q = rg (nrm b) / 4503599627370496 := ⟨_, rfl⟩
  rw [← hq] at k1 k4 k6
  obtain ⟨E, hE⟩ : ∃ E : Nat, (E : Int) = topS b + k + 53 + 1023 := ⟨(topS b + k + 53 + 1023).toNat, by omega⟩
  have hE1 : 1 ≤ E := by omega
  have hE2 : E ≤ 2046 := by omega
  have klo2 : ¬ k + nexp b + ((q : Int) - 1023) < -1075 := by omega
  have klo3 : ¬ 1023 < k + nexp b + ((q : Int) - 1023) := by omega
  have klo4 : k + nexp b + ((q : Int) - 1023) < -1022 := by omega
  have k3 : bits .or .u64 (D.word (sg b) (fracS b) : Int) ((k + nexp b + ((q : Int) - 1023) + 53 + 1023) * 4503599627370496) = (zfl b E : Int) := by
    have h5 := put_exp (sg b) (fracS b) E (fracS_lt h0) (by omega)
    have h6 : ((E * 4503599627370496 : Nat) : Int) = (k + nexp b + ((q : Int) - 1023) + 53 + 1023) * 4503599627370496 := by omega
    rw [h6] at h5; exact h5
  have hm : floatBits .mul .f64 4368491638549381120 (zfl b E) = some (ldS b k) := ldS_denormal h0 hE1 hE2 hE
  have hrun := fun (w : World) => run_float_arith (P := Try.prog) w .mul 26 .f64 _ _ _ hm
  clear hm
  have KE := Lib.hid hE; clear hE
  have K4 := Lib.hid k4; clear k4
  have KQ := Lib.hid hq; clear hq
  have KS := Lib.hid (sg_nrm h0)
  have K1 := Lib.hid h1; clear h1
  have K2 := Lib.hid h2; clear h2
  have K0 := Lib.hid h0; clear h0
  have KF := Lib.hid hf; clear hf
  go_enter Try.func83, Try.ntmps83
  go_wp2_with (first
    | (go_at_call 19; refine (isInf_no hb K1.out _).mono ?_; rintro e w' ⟨rfl, rfl⟩)
    | (go_at_call 39; refine (isNaN_no K2.out _).mono ?_; rintro e w' ⟨rfl, rfl⟩)
    | (go_at_call 84; refine (normalize_any _ hb K0.out _).mono ?_; rintro e w' ⟨rfl, rfl⟩)
    | (go_at_call 81; refine (copysign_any 0 _ (by decide) kn _).mono ?_; rintro e w' ⟨rfl, rfl⟩)
    | (go_at_call 85; refine (Inf_neg _).mono ?_; rintro e w' ⟨rfl, rfl⟩)
    | (go_at_call 85; refine (Inf_pos _).mono ?_; rintro e w' ⟨rfl, rfl⟩))
  go_ret
  exact ⟨rfl, rfl⟩


theorem ldexp_fin (b : Nat) (k : Int) (hb : b < 18446744073709551616) (hf : fin b) (h0 : rg b ≠ 0) (hk : -1099511627776 ≤ k ∧ k ≤ 1099511627776) (w : World) :
    Calls Try.prog 83 #[.float .f64 b, .int .i64 k] w fun e w' => e = .returned (.float .f64 (ldS b k)) ∧ w = w' := by
  by_cases c1 : topS b + k < -1075
  · exact ldexp_low b k hb hf h0 hk c1 w
  · by_cases c2 : 1023 < topS b + k
    · cases hs : sg b
      · exact ldexp_high_pos b k hb hf h0 hk c2 hs w
      · exact ldexp_high_neg b k hb hf h0 hk c2 hs w
    · by_cases c3 : topS b + k < -1022
      · exact ldexp_denormal b k hb hf h0 hk (by omega) c3 w
      · exact ldexp_normal b k hb hf h0 hk (by omega) (by omega) w

set_option maxHeartbeats 400000 in
theorem Ldexp_any (b : Nat) (k : Int) (hb : b < 18446744073709551616) (hf : fin b) (hk : -1099511627776 ≤ k ∧ k ≤ 1099511627776) (w : World) :
    Calls Try.prog 80 #[.float .f64 b, .int .i64 k] w fun e w' => e = .returned (.float .f64 (ldS b k)) ∧ w = w' := by
  by_cases h0 : rg b = 0
  · rw [ldS_zero k hb h0]; exact ldexp_zero b k h0 w
  · go_enter Try.func80, Try.ntmps80
    go_wp2_with (go_at_call 83; refine (ldexp_fin b k hb hf h0 hk _).mono ?_; rintro e w' ⟨rfl, rfl⟩)
    go_ret
    exact ⟨rfl, rfl⟩

end Go.Proofs.Ytkhnoffhbfcgfaa
