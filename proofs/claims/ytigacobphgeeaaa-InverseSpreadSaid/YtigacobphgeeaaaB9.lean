/- Plain texts, laid as one. -/
import Derived.Test.YtigacobphgeeaaaProg
import Derived.Handy
import Derived.WalkSpells
import Derived.WalkLawsBesides
import Derived.IntWalk
import Derived.Lib.Hide
import Derived.Outline
import Derived.Test.YtigacobphgeeaaaF9
/- Contracts of package math's functions on floats that the program uses. -/
namespace Go.Proofs.Ytigacobphgeeaaa
open Go.RowKit Lev

theorem run_fbits (b : Nat) (w : World) : (callFunc 43 #[.float .f64 b]).run Try.prog w = .ok (.value (.int .u64 b)) w := by
  rw [run_callFunc_extern Try.func43 (by kernel_rfl) (by kernel_rfl) (by kernel_rfl) (e := Extern.MathFloatBits.float64bits) (by kernel_rfl)]
  rfl
theorem run_frombits (n : Int) (w : World) : (callFunc 85 #[.int .u64 n]).run Try.prog w = .ok (.value (.float .f64 n.toNat)) w := by
  rw [run_callFunc_extern Try.func85 (by kernel_rfl) (by kernel_rfl) (by kernel_rfl) (e := Extern.MathFloatBits.float64frombits) (by kernel_rfl)]
  rfl
attribute [local go_sem] run_fbits run_frombits order_lt order_gt order_eq order_ne flt_or_feq flt_or_feq'

theorem wrap_sign {b : Nat} (hb : b < 18446744073709551616) : decide (wrap64 (b : Int) < 0) = sg b := by
  rw [sg_lt hb, decide_eq_decide]; unfold wrap64; omega

set_option maxHeartbeats 400000 in
theorem signbit_any (b : Nat) (hb : b < 18446744073709551616) (w : World) :
    Calls Try.prog 67 #[.float .f64 b] w fun e w' => e = .returned (.bool (sg b)) ∧ w = w' := by
  rw [← wrap_sign hb]
  go_enter Try.func67, Try.ntmps67
  go_wp2
  go_ret
  exact ⟨rfl, rfl⟩

set_option maxHeartbeats 400000 in
theorem abs_any (b : Nat) (hb : b < 18446744073709551616) (w : World) :
    Calls Try.prog 62 #[.float .f64 b] w fun e w' => e = .returned (.float .f64 (rg b)) ∧ w = w' := by
  have h := bits_abs hb
  go_enter Try.func62, Try.ntmps62
  go_wp2
  go_ret
  exact ⟨rfl, rfl⟩

theorem ret_float {a b : Nat} (h : a = b) : Ending.returned (.float .f64 a) = Ending.returned (.float .f64 b) := by rw [h]
theorem ret_bool {a b : Bool} (h : a = b) : Ending.returned (.bool a) = Ending.returned (.bool b) := by rw [h]
theorem ret_int {k : IntKind} {a b : Int} (h : a = b) : Ending.returned (.int k a) = Ending.returned (.int k b) := by rw [h]

set_option maxHeartbeats 400000 in
theorem isNaN_any (b : Nat) (w : World) :
    Calls Try.prog 73 #[.float .f64 b] w fun e w' => e = .returned (.bool (decide (INF < rg b))) ∧ w = w' := by
  have h : (!feq b b) = decide (INF < rg b) := by
    unfold feq; rw [← decide_not, decide_eq_decide]; omega
  have H := Lib.hid h; clear h
  go_enter Try.func73, Try.ntmps73
  go_wp2
  go_ret
  exact ⟨ret_bool H.out, rfl⟩

theorem flt_max (b : Nat) : flt 9218868437227405311 (rg b) = decide (rg b = INF) := by
  have h1 : ord 9218868437227405311 = 9218868437227405311 := by decide
  have h2 : rg 9218868437227405311 = 9218868437227405311 := by decide
  unfold flt
  rw [ord_rg, h1, h2, rg_rg, decide_eq_decide, INF_eq]; omega

set_option maxHeartbeats 400000 in
theorem isInf_any (b : Nat) (hb : b < 18446744073709551616) (w : World) :
    Calls Try.prog 74 #[.float .f64 b, .int .i64 0] w fun e w' => e = .returned (.bool (decide (rg b = INF))) ∧ w = w' := by
  rw [← flt_max]
  go_enter Try.func74, Try.ntmps74
  go_wp2_with (go_at_call 62; refine (abs_any _ hb _).mono ?_; rintro e w' ⟨rfl, rfl⟩)
  go_ret
  exact ⟨rfl, rfl⟩

/-- A sign's bit. -/
def sbit (s : Bool) : Nat := s.toNat * 9223372036854775808

set_option maxHeartbeats 400000 in
theorem copysign_any (f s : Nat) (hf : f < 18446744073709551616) (hs : s < 18446744073709551616) (w : World) :
    Calls Try.prog 101 #[.float .f64 f, .float .f64 s] w fun e w' => e = .returned (.float .f64 (D.word (sg s) (rg f))) ∧ w = w' := by
  have h1 := bits_abs hf
  have h2 : bits .and .u64 (s : Int) 9223372036854775808 = (sbit (sg s) : Nat) := bits_sign hs
  have h3 : bits .or .u64 (rg f : Int) (sbit (sg s) : Nat) = (D.word (sg s) (rg f) : Int) := bits_copysign (sg s) (rg f) (rg_lt f)
  go_enter Try.func101, Try.ntmps101
  go_wp2
  go_ret
  exact ⟨rfl, rfl⟩

theorem feq_abs (b : Nat) : flt (rg b) 4503599627370496 = decide (rg b < 4503599627370496) := by
  have h1 : ord 4503599627370496 = 4503599627370496 := by decide
  have h2 : rg 4503599627370496 = 4503599627370496 := by decide
  unfold flt
  rw [ord_rg, h1, h2, rg_rg, decide_eq_decide, INF_eq]; omega

set_option maxHeartbeats 400000 in
theorem normalize_any (b : Nat) (hb : b < 18446744073709551616) (h0 : rg b ≠ 0) (w : World) :
    Calls Try.prog 103 #[.float .f64 b] w fun e w' => e = .returned (.tuple #[.float .f64 (nrm b), .int .i64 (nexp b)]) ∧ w = w' := by
  have hc := feq_abs b
  by_cases h : rg b < 4503599627370496
  · have hm : floatBits .mul .f64 b 4841369599423283200 = some (nrm b) := mul_norm h0 h
    have hrun := fun (w : World) => run_float_arith (P := Try.prog) w .mul 29 .f64 _ _ _ hm
    have he : nexp b = -52 := by unfold nexp; rw [if_pos h]
    rw [decide_eq_true h] at hc
    rw [he]
    clear hm he
    go_enter Try.func103, Try.ntmps103
    go_wp2_with (go_at_call 62; refine (abs_any _ hb _).mono ?_; rintro e w' ⟨rfl, rfl⟩)
    go_ret2
    exact ⟨rfl, rfl⟩
  · have he : nexp b = 0 := by unfold nexp; rw [if_neg h]
    have hn : nrm b = b := by unfold nrm; rw [if_neg h]
    rw [decide_eq_false h] at hc
    rw [he, hn]
    clear he hn
    go_enter Try.func103, Try.ntmps103
    go_wp2_with (go_at_call 62; refine (abs_any _ hb _).mono ?_; rintro e w' ⟨rfl, rfl⟩)
    go_ret2
    exact ⟨rfl, rfl⟩

end Go.Proofs.Ytigacobphgeeaaa

/- Contracts of math.Frexp and math.Ldexp on floats that are numbers. -/
namespace Go.Proofs.Ytigacobphgeeaaa
open Go.RowKit Lev

attribute [local go_sem] run_fbits run_frombits order_lt order_gt order_eq order_ne flt_or_feq flt_or_feq'

theorem isInf_no {b : Nat} (hb : b < 18446744073709551616) (h : rg b ≠ INF) (w : World) :
    Calls Try.prog 74 #[.float .f64 b, .int .i64 0] w fun e w' => e = .returned (.bool false) ∧ w = w' := by
  have := isInf_any b hb w
  rw [decide_eq_false h] at this
  exact this
theorem isNaN_no {b : Nat} (h : ¬ INF < rg b) (w : World) :
    Calls Try.prog 73 #[.float .f64 b] w fun e w' => e = .returned (.bool false) ∧ w = w' := by
  have := isNaN_any b w
  rw [decide_eq_false h] at this
  exact this

set_option maxRecDepth 100000 in
set_option maxHeartbeats 400000 in
theorem frexp_zero (b : Nat) (h0 : rg b = 0) (w : World) :
    Calls Try.prog 93 #[.float .f64 b] w fun e w' => e = .returned (.tuple #[.float .f64 b, .int .i64 0]) ∧ w = w' := by
  have hz : feq b 0 = true := by rw [feq_zero, decide_eq_true h0]
  clear h0
  go_enter Try.func93, Try.ntmps93
  go_wp2
  go_ret2
  exact ⟨rfl, rfl⟩

theorem ret_fi {a b : Nat} {i j : Int} (h : a = b) (h2 : i = j) : Ending.returned (.tuple #[.float .f64 a, .int .i64 i]) = Ending.returned (.tuple #[.float .f64 b, .int .i64 j]) := by rw [h, h2]
theorem nexp_bounds (b : Nat) : -52 ≤ nexp b ∧ nexp b ≤ 0 := by unfold nexp; split <;> omega
theorem mod52 (x : Nat) : x % 4503599627370496 = rg x % 4503599627370496 := by unfold rg; omega
theorem efield (b : Nat) : rg b / 4503599627370496 < 2048 := by have := rg_lt b; omega

set_option maxRecDepth 100000 in
set_option maxHeartbeats 400000 in
theorem frexp_fin (b : Nat) (hb : b < 18446744073709551616) (hf : fin b) (h0 : rg b ≠ 0) (w : World) :
    Calls Try.prog 98 #[.float .f64 b] w fun e w' => e = .returned (.tuple #[.float .f64 (D.word (sg b) (1022 * 4503599627370496 + fracS b)), .int .i64 (topS b + 1)]) ∧ w = w' := by
  have hz : feq b 0 = false := by rw [feq_zero, decide_eq_false h0]
  have h1 : rg b ≠ INF := fun h => by unfold fin at hf; omega
  have h2 : ¬ INF < rg b := fun h => by unfold fin at hf; omega
  have k1 := get_exp (nrm_lt hb h0)
  have k2 := clear_exp (nrm_lt hb h0)
  have k3 : bits .or .u64 (D.word (sg b) (fracS b) : Int) 4602678819172646912 = (D.word (sg b) (1022 * 4503599627370496 + fracS b) : Int) := put_exp (sg b) (fracS b) 1022 (fracS_lt h0) (by decide)
  rw [sg_nrm h0, mod52, rg_nrm_mod h0] at k2
  have k4 := rg_nrm_div h0
  have K4 := Lib.hid k4; clear k4
  have k5 := nexp_bounds b
  have k6 := efield (nrm b)
  have K1 := Lib.hid h1; clear h1
  have K2 := Lib.hid h2; clear h2
  have K0 := Lib.hid h0; clear h0
  have KF := Lib.hid hf; clear hf
  go_enter Try.func98, Try.ntmps98
  go_wp2_with (first
    | (go_at_call 74; refine (isInf_no hb K1.out _).mono ?_; rintro e w' ⟨rfl, rfl⟩)
    | (go_at_call 73; refine (isNaN_no K2.out _).mono ?_; rintro e w' ⟨rfl, rfl⟩)
    | (go_at_call 103; refine (normalize_any _ hb K0.out _).mono ?_; rintro e w' ⟨rfl, rfl⟩))
  go_ret2
  exact ⟨ret_fi rfl (by have := K4.out; omega), rfl⟩

set_option maxRecDepth 100000 in
set_option maxHeartbeats 400000 in
theorem Frexp_fin (b : Nat) (hb : b < 18446744073709551616) (hf : fin b) (h0 : rg b ≠ 0) (w : World) :
    Calls Try.prog 93 #[.float .f64 b] w fun e w' => e = .returned (.tuple #[.float .f64 (D.word (sg b) (1022 * 4503599627370496 + fracS b)), .int .i64 (topS b + 1)]) ∧ w = w' := by
  go_enter Try.func93, Try.ntmps93
  go_wp2_with (go_at_call 98; refine (frexp_fin b hb hf h0 _).mono ?_; rintro e w' ⟨rfl, rfl⟩)
  go_ret2
  exact ⟨rfl, rfl⟩

set_option maxRecDepth 100000 in
set_option maxHeartbeats 400000 in
theorem Inf_pos (w : World) : Calls Try.prog 106 #[.int .i64 1] w fun e w' => e = .returned (.float .f64 INF) ∧ w = w' := by
  go_enter Try.func106, Try.ntmps106
  go_wp2
  go_ret
  exact ⟨rfl, rfl⟩
set_option maxRecDepth 100000 in
set_option maxHeartbeats 400000 in
theorem Inf_neg (w : World) : Calls Try.prog 106 #[.int .i64 (-1)] w fun e w' => e = .returned (.float .f64 (D.word true INF)) ∧ w = w' := by
  go_enter Try.func106, Try.ntmps106
  go_wp2
  go_ret
  exact ⟨ret_float (by decide), rfl⟩

set_option maxRecDepth 100000 in
set_option maxHeartbeats 400000 in
theorem ldexp_zero (b : Nat) (k : Int) (h0 : rg b = 0) (w : World) :
    Calls Try.prog 100 #[.float .f64 b, .int .i64 k] w fun e w' => e = .returned (.float .f64 b) ∧ w = w' := by
  have hz : feq b 0 = true := by rw [feq_zero, decide_eq_true h0]
  clear h0
  go_enter Try.func100, Try.ntmps100
  go_wp2
  go_ret
  exact ⟨rfl, rfl⟩

set_option maxRecDepth 100000 in
set_option maxHeartbeats 400000 in
theorem ldexp_low (b : Nat) (k : Int) (hb : b < 18446744073709551616) (hf : fin b) (h0 : rg b ≠ 0) (hk : -1099511627776 ≤ k ∧ k ≤ 1099511627776) (hlow : topS b + k < -1075) (w : World) :
    Calls Try.prog 105 #[.float .f64 b, .int .i64 k] w fun e w' => e = .returned (.float .f64 (ldS b k)) ∧ w = w' := by
  have hz : feq b 0 = false := by rw [feq_zero, decide_eq_false h0]
  have h1 : rg b ≠ INF := fun h => by unfold fin at hf; omega
  have h2 : ¬ INF < rg b := fun h => by unfold fin at hf; omega
  have kn := nrm_lt hb h0
  have k1 := get_exp64 kn
  have k2 := clear_exp kn
  rw [sg_nrm h0, mod52, rg_nrm_mod h0] at k2
  have k4 := rg_nrm_div h0
  have k5 := nexp_bounds b
  have k6 := efield (nrm b)
  obtain ⟨q, hq⟩ : ∃ q, q = rg (nrm b) / 4503599627370496 := ⟨_, rfl⟩
  rw [← hq] at k1 k4 k6
  rw [ldS_low h0 hlow]
  have klow : k + nexp b + ((q : Int) - 1023) < -1075 := by omega
  have K4 := Lib.hid k4; clear k4
  have KQ := Lib.hid hq; clear hq
  have KS := Lib.hid (sg_nrm h0)
  have K1 := Lib.hid h1; clear h1
  have K2 := Lib.hid h2; clear h2
  have K0 := Lib.hid h0; clear h0
  have KF := Lib.hid hf; clear hf
  go_enter Try.func105, Try.ntmps105
  go_wp2_with (first
    | (go_at_call 74; refine (isInf_no hb K1.out _).mono ?_; rintro e w' ⟨rfl, rfl⟩)
    | (go_at_call 73; refine (isNaN_no K2.out _).mono ?_; rintro e w' ⟨rfl, rfl⟩)
    | (go_at_call 103; refine (normalize_any _ hb K0.out _).mono ?_; rintro e w' ⟨rfl, rfl⟩)
    | (go_at_call 101; refine (copysign_any 0 _ (by decide) kn _).mono ?_; rintro e w' ⟨rfl, rfl⟩)
    | (go_at_call 106; refine (Inf_neg _).mono ?_; rintro e w' ⟨rfl, rfl⟩)
    | (go_at_call 106; refine (Inf_pos _).mono ?_; rintro e w' ⟨rfl, rfl⟩))
  go_ret
  exact ⟨ret_float (by rw [KS.out]; rfl), rfl⟩

set_option maxRecDepth 100000 in
set_option maxHeartbeats 400000 in
theorem ldexp_high_pos (b : Nat) (k : Int) (hb : b < 18446744073709551616) (hf : fin b) (h0 : rg b ≠ 0) (hk : -1099511627776 ≤ k ∧ k ≤ 1099511627776) (hhi : 1023 < topS b + k) (hs : sg b = false) (w : World) :
    Calls Try.prog 105 #[.float .f64 b, .int .i64 k] w fun e w' => e = .returned (.float .f64 (ldS b k)) ∧ w = w' := by
  have hz : feq b 0 = false := by rw [feq_zero, decide_eq_false h0]
  have h1 : rg b ≠ INF := fun h => by unfold fin at hf; omega
  have h2 : ¬ INF < rg b := fun h => by unfold fin at hf; omega
  have kn := nrm_lt hb h0
  have k1 := get_exp64 kn
  have k2 := clear_exp kn
  rw [sg_nrm h0, mod52, rg_nrm_mod h0] at k2
  have k4 := rg_nrm_div h0
  have k5 := nexp_bounds b
  have k6 := efield (nrm b)
  obtain ⟨q, hq⟩ : ∃ q, q = rg (nrm b) / 4503599627370496 := ⟨_, rfl⟩
  rw [← hq] at k1 k4 k6
  rw [ldS_high h0 hhi, hs]
  have klow : 1023 < k + nexp b + ((q : Int) - 1023) := by omega
  have klo2 : ¬ k + nexp b + ((q : Int) - 1023) < -1075 := by omega
  have hlt : flt (nrm b) 0 = false := by
    have h3 : rg (nrm b) ≠ 0 := by have := rg_nrm_ge h0; omega
    have h4 : rg (nrm b) ≤ INF := by
      unfold nrm; unfold fin at hf; have := INF_eq; split
      · have := lg_sub h0 (by assumption); have := shifted h0; rw [rg_word _ _ (by omega)]; omega
      · omega
    rw [flt_zero h4 h3, sg_nrm h0, hs]
  clear hs k2
  have K4 := Lib.hid k4; clear k4
  have KQ := Lib.hid hq; clear hq
  have KS := Lib.hid (sg_nrm h0)
  have K1 := Lib.hid h1; clear h1
  have K2 := Lib.hid h2; clear h2
  have K0 := Lib.hid h0; clear h0
  have KF := Lib.hid hf; clear hf
  go_enter Try.func105, Try.ntmps105
  go_wp2_with (first
    | (go_at_call 74; refine (isInf_no hb K1.out _).mono ?_; rintro e w' ⟨rfl, rfl⟩)
    | (go_at_call 73; refine (isNaN_no K2.out _).mono ?_; rintro e w' ⟨rfl, rfl⟩)
    | (go_at_call 103; refine (normalize_any _ hb K0.out _).mono ?_; rintro e w' ⟨rfl, rfl⟩)
    | (go_at_call 101; refine (copysign_any 0 _ (by decide) kn _).mono ?_; rintro e w' ⟨rfl, rfl⟩)
    | (go_at_call 106; refine (Inf_neg _).mono ?_; rintro e w' ⟨rfl, rfl⟩)
    | (go_at_call 106; refine (Inf_pos _).mono ?_; rintro e w' ⟨rfl, rfl⟩))
  go_ret
  exact ⟨rfl, rfl⟩

set_option maxRecDepth 100000 in
set_option maxHeartbeats 400000 in
theorem ldexp_high_neg (b : Nat) (k : Int) (hb : b < 18446744073709551616) (hf : fin b) (h0 : rg b ≠ 0) (hk : -1099511627776 ≤ k ∧ k ≤ 1099511627776) (hhi : 1023 < topS b + k) (hs : sg b = true) (w : World) :
    Calls Try.prog 105 #[.float .f64 b, .int .i64 k] w fun e w' => e = .returned (.float .f64 (ldS b k)) ∧ w = w' := by
  have hz : feq b 0 = false := by rw [feq_zero, decide_eq_false h0]
  have h1 : rg b ≠ INF := fun h => by unfold fin at hf; omega
  have h2 : ¬ INF < rg b := fun h => by unfold fin at hf; omega
  have kn := nrm_lt hb h0
  have k1 := get_exp64 kn
  have k2 := clear_exp kn
  rw [sg_nrm h0, mod52, rg_nrm_mod h0] at k2
  have k4 := rg_nrm_div h0
  have k5 := nexp_bounds b
  have k6 := efield (nrm b)
  obtain ⟨q, hq⟩ : ∃ q, q = rg (nrm b) / 4503599627370496 := ⟨_, rfl⟩
  rw [← hq] at k1 k4 k6
  rw [ldS_high h0 hhi, hs]
  have klow : 1023 < k + nexp b + ((q : Int) - 1023) := by omega
  have klo2 : ¬ k + nexp b + ((q : Int) - 1023) < -1075 := by omega
  have hlt : flt (nrm b) 0 = true := by
    have h3 : rg (nrm b) ≠ 0 := by have := rg_nrm_ge h0; omega
    have h4 : rg (nrm b) ≤ INF := by
      unfold nrm; unfold fin at hf; have := INF_eq; split
      · have := lg_sub h0 (by assumption); have := shifted h0; rw [rg_word _ _ (by omega)]; omega
      · omega
    rw [flt_zero h4 h3, sg_nrm h0, hs]
  clear hs k2
  have K4 := Lib.hid k4; clear k4
  have KQ := Lib.hid hq; clear hq
  have KS := Lib.hid (sg_nrm h0)
  have K1 := Lib.hid h1; clear h1
  have K2 := Lib.hid h2; clear h2
  have K0 := Lib.hid h0; clear h0
  have KF := Lib.hid hf; clear hf
  go_enter Try.func105, Try.ntmps105
  go_wp2_with (first
    | (go_at_call 74; refine (isInf_no hb K1.out _).mono ?_; rintro e w' ⟨rfl, rfl⟩)
    | (go_at_call 73; refine (isNaN_no K2.out _).mono ?_; rintro e w' ⟨rfl, rfl⟩)
    | (go_at_call 103; refine (normalize_any _ hb K0.out _).mono ?_; rintro e w' ⟨rfl, rfl⟩)
    | (go_at_call 101; refine (copysign_any 0 _ (by decide) kn _).mono ?_; rintro e w' ⟨rfl, rfl⟩)
    | (go_at_call 106; refine (Inf_neg _).mono ?_; rintro e w' ⟨rfl, rfl⟩)
    | (go_at_call 106; refine (Inf_pos _).mono ?_; rintro e w' ⟨rfl, rfl⟩))
  go_ret
  exact ⟨rfl, rfl⟩

set_option maxRecDepth 100000 in
set_option maxHeartbeats 400000 in
theorem ldexp_normal (b : Nat) (k : Int) (hb : b < 18446744073709551616) (hf : fin b) (h0 : rg b ≠ 0) (hk : -1099511627776 ≤ k ∧ k ≤ 1099511627776) (hn1 : -1022 ≤ topS b + k) (hn2 : topS b + k ≤ 1023) (w : World) :
    Calls Try.prog 105 #[.float .f64 b, .int .i64 k] w fun e w' => e = .returned (.float .f64 (ldS b k)) ∧ w = w' := by
  have hz : feq b 0 = false := by rw [feq_zero, decide_eq_false h0]
  have h1 : rg b ≠ INF := fun h => by unfold fin at hf; omega
  have h2 : ¬ INF < rg b := fun h => by unfold fin at hf; omega
  have kn := nrm_lt hb h0
  have k1 := get_exp64 kn
  have k2 := clear_exp kn
  rw [sg_nrm h0, mod52, rg_nrm_mod h0] at k2
  have k4 := rg_nrm_div h0
  have k5 := nexp_bounds b
  have k6 := efield (nrm b)
  obtain ⟨q, hq⟩ : ∃ q, q = rg (nrm b) / 4503599627370496 := ⟨_, rfl⟩
  rw [← hq] at k1 k4 k6
  obtain ⟨E, hE⟩ : ∃ E : Nat, (E : Int) = topS b + k + 1023 := ⟨(topS b + k + 1023).toNat, by omega⟩
  have hE1 : 1 ≤ E := by omega
  have hE2 : E ≤ 2046 := by omega
  rw [ldS_normal h0 hE1 hE2 hE]
  have klo2 : ¬ k + nexp b + ((q : Int) - 1023) < -1075 := by omega
  have klo3 : ¬ 1023 < k + nexp b + ((q : Int) - 1023) := by omega
  have klo4 : ¬ k + nexp b + ((q : Int) - 1023) < -1022 := by omega
  have k3 : bits .or .u64 (D.word (sg b) (fracS b) : Int) ((k + nexp b + ((q : Int) - 1023) + 1023) * 4503599627370496) = (zfl b E : Int) := by
    have h5 := put_exp (sg b) (fracS b) E (fracS_lt h0) (by omega)
    have h6 : ((E * 4503599627370496 : Nat) : Int) = (k + nexp b + ((q : Int) - 1023) + 1023) * 4503599627370496 := by omega
    rw [h6] at h5; exact h5
  have hm : floatBits .mul .f64 4607182418800017408 (zfl b E) = some (zfl b E) := one_mul_zfl h0 hE2
  have hrun := fun (w : World) => run_float_arith (P := Try.prog) w .mul 29 .f64 _ _ _ hm
  clear hm
  have KE := Lib.hid hE; clear hE
  have K4 := Lib.hid k4; clear k4
  have KQ := Lib.hid hq; clear hq
  have KS := Lib.hid (sg_nrm h0)
  have K1 := Lib.hid h1; clear h1
  have K2 := Lib.hid h2; clear h2
  have K0 := Lib.hid h0; clear h0
  have KF := Lib.hid hf; clear hf
  go_enter Try.func105, Try.ntmps105
  go_wp2_with (first
    | (go_at_call 74; refine (isInf_no hb K1.out _).mono ?_; rintro e w' ⟨rfl, rfl⟩)
    | (go_at_call 73; refine (isNaN_no K2.out _).mono ?_; rintro e w' ⟨rfl, rfl⟩)
    | (go_at_call 103; refine (normalize_any _ hb K0.out _).mono ?_; rintro e w' ⟨rfl, rfl⟩)
    | (go_at_call 101; refine (copysign_any 0 _ (by decide) kn _).mono ?_; rintro e w' ⟨rfl, rfl⟩)
    | (go_at_call 106; refine (Inf_neg _).mono ?_; rintro e w' ⟨rfl, rfl⟩)
    | (go_at_call 106; refine (Inf_pos _).mono ?_; rintro e w' ⟨rfl, rfl⟩))
  go_ret
  exact ⟨rfl, rfl⟩


set_option maxRecDepth 100000 in
set_option maxHeartbeats 400000 in
theorem ldexp_denormal (b : Nat) (k : Int) (hb : b < 18446744073709551616) (hf : fin b) (h0 : rg b ≠ 0) (hk : -1099511627776 ≤ k ∧ k ≤ 1099511627776) (hn1 : -1075 ≤ topS b + k) (hn2 : topS b + k < -1022) (w : World) :
    Calls Try.prog 105 #[.float .f64 b, .int .i64 k] w fun e w' => e = .returned (.float .f64 (ldS b k)) ∧ w = w' := by
  have hz : feq b 0 = false := by rw [feq_zero, decide_eq_false h0]
  have h1 : rg b ≠ INF := fun h => by unfold fin at hf; omega
  have h2 : ¬ INF < rg b := fun h => by unfold fin at hf; omega
  have kn := nrm_lt hb h0
  have k1 := get_exp64 kn
  have k2 := clear_exp kn
  rw [sg_nrm h0, mod52, rg_nrm_mod h0] at k2
  have k4 := rg_nrm_div h0
  have k5 := nexp_bounds b
  have k6 := efield (nrm b)
  obtain ⟨q, hq⟩ : ∃ q, q = rg (nrm b) / 4503599627370496 := ⟨_, rfl⟩
  rw [← hq] at k1 k4 k6
  obtain ⟨E, hE⟩ : ∃ E : Nat, (E : Int) = topS b + k + 53 + 1023 := ⟨(topS b + k + 53 + 1023).toNat, by omega⟩
  have hE1 : 1 ≤ E := by omega
  have hE2 : E ≤ 2046 := by omega
  have klo2 : ¬ k + nexp b + ((q : Int) - 1023) < -1075 := by omega
  have klo3 : ¬ 1023 < k + nexp b + ((q : Int) - 1023) := by omega
  have klo4 : k + nexp b + ((q : Int) - 1023) < -1022 := by omega
  have k3 : bits .or .u64 (D.word (sg b) (fracS b) : Int) ((k + nexp b + ((q : Int) - 1023) + 53 + 1023) * 4503599627370496) = (zfl b E : Int) := by
    have h5 := put_exp (sg b) (fracS b) E (fracS_lt h0) (by omega)
    have h6 : ((E * 4503599627370496 : Nat) : Int) = (k + nexp b + ((q : Int) - 1023) + 53 + 1023) * 4503599627370496 := by omega
    rw [h6] at h5; exact h5
  have hm : floatBits .mul .f64 4368491638549381120 (zfl b E) = some (ldS b k) := ldS_denormal h0 hE1 hE2 hE
  have hrun := fun (w : World) => run_float_arith (P := Try.prog) w .mul 29 .f64 _ _ _ hm
  clear hm
  have KE := Lib.hid hE; clear hE
  have K4 := Lib.hid k4; clear k4
  have KQ := Lib.hid hq; clear hq
  have KS := Lib.hid (sg_nrm h0)
  have K1 := Lib.hid h1; clear h1
  have K2 := Lib.hid h2; clear h2
  have K0 := Lib.hid h0; clear h0
  have KF := Lib.hid hf; clear hf
  go_enter Try.func105, Try.ntmps105
  go_wp2_with (first
    | (go_at_call 74; refine (isInf_no hb K1.out _).mono ?_; rintro e w' ⟨rfl, rfl⟩)
    | (go_at_call 73; refine (isNaN_no K2.out _).mono ?_; rintro e w' ⟨rfl, rfl⟩)
    | (go_at_call 103; refine (normalize_any _ hb K0.out _).mono ?_; rintro e w' ⟨rfl, rfl⟩)
    | (go_at_call 101; refine (copysign_any 0 _ (by decide) kn _).mono ?_; rintro e w' ⟨rfl, rfl⟩)
    | (go_at_call 106; refine (Inf_neg _).mono ?_; rintro e w' ⟨rfl, rfl⟩)
    | (go_at_call 106; refine (Inf_pos _).mono ?_; rintro e w' ⟨rfl, rfl⟩))
  go_ret
  exact ⟨rfl, rfl⟩


theorem ldexp_fin (b : Nat) (k : Int) (hb : b < 18446744073709551616) (hf : fin b) (h0 : rg b ≠ 0) (hk : -1099511627776 ≤ k ∧ k ≤ 1099511627776) (w : World) :
    Calls Try.prog 105 #[.float .f64 b, .int .i64 k] w fun e w' => e = .returned (.float .f64 (ldS b k)) ∧ w = w' := by
  by_cases c1 : topS b + k < -1075
  · exact ldexp_low b k hb hf h0 hk c1 w
  · by_cases c2 : 1023 < topS b + k
    · cases hs : sg b
      · exact ldexp_high_pos b k hb hf h0 hk c2 hs w
      · exact ldexp_high_neg b k hb hf h0 hk c2 hs w
    · by_cases c3 : topS b + k < -1022
      · exact ldexp_denormal b k hb hf h0 hk (by omega) c3 w
      · exact ldexp_normal b k hb hf h0 hk (by omega) (by omega) w

set_option maxRecDepth 100000 in
set_option maxHeartbeats 400000 in
theorem Ldexp_any (b : Nat) (k : Int) (hb : b < 18446744073709551616) (hf : fin b) (hk : -1099511627776 ≤ k ∧ k ≤ 1099511627776) (w : World) :
    Calls Try.prog 100 #[.float .f64 b, .int .i64 k] w fun e w' => e = .returned (.float .f64 (ldS b k)) ∧ w = w' := by
  by_cases h0 : rg b = 0
  · rw [ldS_zero k hb h0]; exact ldexp_zero b k h0 w
  · go_enter Try.func100, Try.ntmps100
    go_wp2_with (go_at_call 105; refine (ldexp_fin b k hb hf h0 hk _).mono ?_; rintro e w' ⟨rfl, rfl⟩)
    go_ret
    exact ⟨rfl, rfl⟩

end Go.Proofs.Ytigacobphgeeaaa

/- Contracts of package bits: kind, Split, Top, Same. -/
namespace Go.Proofs.Ytigacobphgeeaaa
open Go.RowKit Lev

attribute [local go_sem] run_fbits run_frombits order_lt order_gt order_eq order_ne flt_or_feq flt_or_feq'

theorem results_tmp4 {fn : Func} {t u v x : Tmp} (h : fn.results = #[.tmp t, .tmp u, .tmp v, .tmp x]) (tmps : Array Value) (P : Program) (w : World) :
    (results fn tmps).run P w = .ok (.tuple #[tmps.getD t undef, tmps.getD u undef, tmps.getD v undef, tmps.getD x undef]) w := by simp [results, h]

theorem feq_self (b : Nat) : feq b b = decide (¬ INF < rg b) := by unfold feq; rw [decide_eq_decide]; omega

set_option maxHeartbeats 400000 in
theorem kind_any (b : Nat) (hb : b < 18446744073709551616) (w : World) :
    Calls Try.prog 92 #[.float .f64 b] w fun e w' => e = .returned (.int .i64 (kindS b)) ∧ w = w' := by
  have hs := feq_self b
  have hz := feq_zero b
  by_cases h1 : INF < rg b
  · rw [kindS_nan h1]
    rw [decide_eq_false (fun h => h h1)] at hs
    clear hz h1
    go_enter Try.func92, Try.ntmps92
    go_wp2_with (go_at_call 74; refine (isInf_any b hb _).mono ?_; rintro e w' ⟨rfl, rfl⟩)
    go_ret
    exact ⟨rfl, rfl⟩
  · rw [decide_eq_true h1] at hs
    by_cases h2 : rg b = INF
    · rw [kindS_inf h2]
      have h3 := isInf_any b hb
      rw [decide_eq_true h2] at h3
      have H3 := Lib.hid h3
      clear hz h1 h2 h3
      go_enter Try.func92, Try.ntmps92
      go_wp2_with (go_at_call 74; refine (H3.out _).mono ?_; rintro e w' ⟨rfl, rfl⟩)
      go_ret
      exact ⟨rfl, rfl⟩
    · have H3 := Lib.hid (isInf_no hb h2)
      by_cases h0 : rg b = 0
      · rw [kindS_zero h0]
        rw [decide_eq_true h0] at hz
        clear h1 h2 h0
        go_enter Try.func92, Try.ntmps92
        go_wp2_with (go_at_call 74; refine (H3.out _).mono ?_; rintro e w' ⟨rfl, rfl⟩)
        go_ret
        exact ⟨rfl, rfl⟩
      · rw [kindS_fin (by unfold fin; omega) h0]
        rw [decide_eq_false h0] at hz
        clear h1 h2 h0
        go_enter Try.func92, Try.ntmps92
        go_wp2_with (go_at_call 74; refine (H3.out _).mono ?_; rintro e w' ⟨rfl, rfl⟩)
        go_ret
        exact ⟨rfl, rfl⟩

theorem kind_is {b : Nat} {k : Int} (hb : b < 18446744073709551616) (hk : kindS b = k) (w : World) :
    Calls Try.prog 92 #[.float .f64 b] w fun e w' => e = .returned (.int .i64 k) ∧ w = w' := by
  rw [← hk]; exact kind_any b hb w

theorem frexp_part (b : Nat) (hf : fin b) (h0 : rg b ≠ 0) (w : World) :
    Calls Try.prog 93 #[.float .f64 (rg b)] w fun e w' => e = .returned (.tuple #[.float .f64 (partF b), .int .i64 (topS b + 1)]) ∧ w = w' := by
  have h := Frexp_fin (rg b) (Nat.lt_trans (rg_lt b) (by decide)) (fin_rg hf) (by rw [rg_rg]; exact h0) w
  rw [frac_word, topS_rg] at h
  exact h
theorem ldexp_part (b : Nat) (h0 : rg b ≠ 0) (w : World) :
    Calls Try.prog 100 #[.float .f64 (partF b), .int .i64 53] w fun e w' => e = .returned (.float .f64 (1075 * 4503599627370496 + fracS b)) ∧ w = w' := by
  obtain ⟨h1, h2, h3, h4, h5, h6, h7⟩ := partF_facts h0
  have h := Ldexp_any (partF b) 53 (by omega) h5 (by omega) w
  rw [part_ldS h0] at h
  exact h

theorem ret_split4 {s t : Bool} {a b : Int} {i j k l : Int} (h : s = t) (h1 : a = b) (h2 : i = j) (h3 : k = l) : Ending.returned (.tuple #[.bool s, .int .u64 a, .int .i64 i, .int .i64 k]) = Ending.returned (.tuple #[.bool t, .int .u64 b, .int .i64 j, .int .i64 l]) := by rw [h, h1, h2, h3]
theorem ret_split {s t : Bool} {a b : Int} {i j : Int} (h : s = t) (h1 : a = b) (h2 : i = j) : Ending.returned (.tuple #[.bool s, .int .u64 a, .int .i64 i, .int .i64 1]) = Ending.returned (.tuple #[.bool t, .int .u64 b, .int .i64 j, .int .i64 1]) := by rw [h, h1, h2]

end Go.Proofs.Ytigacobphgeeaaa

/- Contracts of package bits: fit, Make, Pow. -/
namespace Go.Proofs.Ytigacobphgeeaaa
open Go.RowKit Lev

attribute [local go_sem] run_fbits run_frombits order_lt order_gt order_eq order_ne flt_or_feq flt_or_feq'

theorem and_one {N : Nat} (h : N < 18446744073709551616) : bits .and .u64 (N : Int) 1 = ((N % 2 : Nat) : Int) := by
  have h1 := u64_and_nat N 1 h (by decide)
  rw [nat_mask1] at h1
  exact h1

theorem results_tmp3 {fn : Func} {t u v : Tmp} (h : fn.results = #[.tmp t, .tmp u, .tmp v]) (tmps : Array Value) (P : Program) (w : World) :
    (results fn tmps).run P w = .ok (.tuple #[tmps.getD t undef, tmps.getD u undef, tmps.getD v undef]) w := by simp [results, h]

/-- What fit comes to. -/
def FitPost (m : Nat) (e : Int) (w : World) (en : Ending) (w' : World) : Prop :=
  ∃ (M : Nat) (E : Int) (is : Bool), en = .returned (.tuple #[.int .u64 (M : Int), .int .i64 E, .bool is]) ∧ w = w' ∧ (M : Rat) * pw E = (m : Rat) * pw e ∧
    is = decide (M < 9007199254740992 ∧ -1074 ≤ E ∧ E ≤ 971) ∧ (M % 2 = 1 ∨ 971 ≤ E) ∧ ¬ (971 < E ∧ M < 4503599627370496)

set_option maxHeartbeats 1000000 in
set_option maxRecDepth 100000 in
theorem fit_any (m : Nat) (e : Int) (hm : m < 18446744073709551616) (h0 : 0 < m) (he : -100000 ≤ e ∧ e ≤ 100000) (w : World) :
    Calls Try.prog 99 #[.int .u64 (m : Int), .int .i64 e] w (FitPost m e w) := by
  go_enter Try.func99, Try.ntmps99
  go_wp2
  go_loop [0, 1] (fun a x => ∃ M j : Nat, M * 2 ^ j = m ∧ 0 < M ∧ a = .int .u64 (M : Int) ∧ x = .int .i64 (e + (j : Int))) (fun a _ => (intOf a).toNat)
  case atStart => exact ⟨m, 0, by simp, h0, rfl, by simp⟩
  case round =>
    obtain ⟨M, j, hM, hM0, rfl, rfl⟩ := hrel
    have hj := shift_few hM hM0 hm
    have hMm := shift_le hM
    have hand := and_one (N := M) (by omega)
    by_cases hev : M % 2 = 0
    · rw [hev] at hand
      have KM := Lib.hid hM; clear hM
      have KE := Lib.hid hev; clear hev
      go_wp2
      go_round
      case rel => exact ⟨M / 2, j + 1, shift_half KM.out KE.out, by have := KE.out; omega, by simp, by go_num⟩
      case measure => simp [intOf]; omega
    · have hodd : M % 2 = 1 := by omega
      rw [hodd] at hand
      have KV := Lib.hid (shift_val (e := e) hM)
      have KO := Lib.hid hodd
      clear hev hodd hM
      obtain ⟨E, hE⟩ : ∃ E : Int, E = e + j := ⟨_, rfl⟩
      rw [← hE] at KV ⊢
      have hE1 : -100000 ≤ E ∧ E ≤ 100064 := by omega
      clear hE
      go_wp2
      go_loop [0, 1] (fun a x => ∃ (N : Nat) (F : Int), (N : Rat) * pw F = (m : Rat) * pw e ∧ N < 18446744073709551616 ∧ 0 < N ∧ F ≤ E ∧ -100000 ≤ F ∧ (N % 2 = 1 ∨ 971 ≤ F) ∧ a = .int .u64 (N : Int) ∧ x = .int .i64 F) (fun _ x => (intOf x - 971).toNat)
      case atStart => exact ⟨M, E, KV.out, by omega, hM0, Int.le_refl _, by omega, .inl KO.out, rfl, rfl⟩
      case round =>
        obtain ⟨N, F, hN, hN64, hN0, hFE, hFlo, hNO, rfl, rfl⟩ := hrel
        have KN := Lib.hid hN; clear hN
        have KNO := Lib.hid hNO; clear hNO
        have i64 : (N : Int) < 18446744073709551616 := by omega
        have K64 := Lib.hid hN64; clear hN64
        have Km := Lib.hid hm; clear hm
        by_cases hc : 971 < F ∧ N < 4503599627370496
        · obtain ⟨hc1, hc2'⟩ := hc
          have hc2 : (N : Int) < 4503599627370496 := by omega
          clear hc2'
          go_wp2
          go_round
          case rel => exact ⟨2 * N, F - 1, by rw [double_val]; exact KN.out, by omega, by omega, by omega, by omega, .inr (by omega), by first | go_num | (congr 1; omega), by first | rfl | go_num⟩
          case measure => simp [intOf]; omega
        · have KC := Lib.hid hc
          by_cases hc1 : 971 < F
          · have hc2 : decide ((N : Int) < 4503599627370496) = false := decide_eq_false (by omega)
            clear hc
            by_cases hd1 : (N : Int) < 9007199254740992
            · have hd2 : decide (-1074 ≤ F) = true := decide_eq_true (by omega)
              have hd3 : decide (F ≤ 971) = false := decide_eq_false (by omega)
              go_wp2
              refine bodyPost_ret (results_tmp3 rfl _ _ _) rfl ?_
              exact ⟨N, F, false, rfl, rfl, KN.out, (by simp; omega), KNO.out, KC.out⟩
            · go_wp2
              refine bodyPost_ret (results_tmp3 rfl _ _ _) rfl ?_
              exact ⟨N, F, false, rfl, rfl, KN.out, (by simp; omega), KNO.out, KC.out⟩
          · clear hc
            by_cases hd1 : (N : Int) < 9007199254740992
            · by_cases hd2 : -1074 ≤ F
              · go_wp2
                refine bodyPost_ret (results_tmp3 rfl _ _ _) rfl ?_
                exact ⟨N, F, true, rfl, rfl, KN.out, (by simp; omega), KNO.out, KC.out⟩
              · go_wp2
                refine bodyPost_ret (results_tmp3 rfl _ _ _) rfl ?_
                exact ⟨N, F, false, rfl, rfl, KN.out, (by simp; omega), KNO.out, KC.out⟩
            · go_wp2
              refine bodyPost_ret (results_tmp3 rfl _ _ _) rfl ?_
              exact ⟨N, F, false, rfl, rfl, KN.out, (by simp; omega), KNO.out, KC.out⟩

theorem ret_fb {a b : Nat} {s t : Bool} (h : a = b) (h2 : s = t) : Ending.returned (.tuple #[.float .f64 a, .bool s]) = Ending.returned (.tuple #[.float .f64 b, .bool t]) := by rw [h, h2]

set_option maxHeartbeats 400000 in
theorem make_zero (neg : Bool) (e : Int) (w : World) :
    Calls Try.prog 94 #[.bool neg, .int .u64 0, .int .i64 e] w fun en w' => en = .returned (.tuple #[.float .f64 (D.word neg 0), .bool true]) ∧ w = w' := by
  cases neg
  · go_enter Try.func94, Try.ntmps94
    go_wp2
    go_ret2
    exact ⟨rfl, rfl⟩
  · go_enter Try.func94, Try.ntmps94
    go_wp2_with (go_at_call 101; refine (copysign_any 0 _ (by decide) (by decide) _).mono ?_; rintro e w' ⟨rfl, rfl⟩)
    go_ret2
    exact ⟨ret_fb (by decide) rfl, rfl⟩

set_option maxHeartbeats 400000 in
theorem make_far (neg : Bool) (m : Nat) (e : Int) (h0 : ((m : Int) != 0) = true) (h : e < -5000 ∨ 5000 < e) (w : World) :
    Calls Try.prog 94 #[.bool neg, .int .u64 (m : Int), .int .i64 e] w fun en w' => en = .returned (.tuple #[.float .f64 0, .bool false]) ∧ w = w' := by
  rcases h with h | h
  · go_enter Try.func94, Try.ntmps94
    go_wp2
    go_ret2
    exact ⟨rfl, rfl⟩
  · have h2 : ¬ e < -5000 := by omega
    go_enter Try.func94, Try.ntmps94
    go_wp2
    go_ret2
    exact ⟨rfl, rfl⟩

set_option maxHeartbeats 1000000 in
theorem make_near (neg : Bool) (m : Nat) (e : Int) (hm : m < 18446744073709551616) (hm0 : 0 < m) (h0 : ((m : Int) != 0) = true) (h1 : ¬ e < -5000) (h2 : ¬ 5000 < e) (w : World) :
    Calls Try.prog 94 #[.bool neg, .int .u64 (m : Int), .int .i64 e] w fun en w' => en = .returned (.tuple #[.float .f64 (makeF neg m e), .bool (makeB m e)]) ∧ w = w' := by
  go_enter Try.func94, Try.ntmps94
  go_wp2_with fail
  refine (fit_any m e hm hm0 (by omega) _).mono ?_
  rintro en w' ⟨M, E, is, rfl, rfl, hv, his, ho, hn⟩
  by_cases hc : M < 9007199254740992 ∧ -1074 ≤ E ∧ E ≤ 971
  · rw [decide_eq_true hc] at his
    subst his
    obtain ⟨hc1, hc2, hc3⟩ := hc
    obtain ⟨r0, hr0, hfi, hrv⟩ := ofInt_whole hc1
    obtain ⟨q1, q2, q3, q4⟩ := ldS_make hc1 hc2 hc3 hr0 hrv hv
    have hI := INF_eq
    have hb0 : r0 < 18446744073709551616 := by omega
    have hf0 : fin r0 := by unfold fin; rw [show rg r0 = r0 from Nat.mod_eq_of_lt (by omega)]; exact hr0
    have hl := ldS_lt r0 E
    have KQ := Lib.hid q3
    have KL := Lib.hid hl
    have KB := Lib.hid hb0
    have KF := Lib.hid hf0
    have K1 := Lib.hid q1
    have K4 := Lib.hid (q4 neg)
    clear q1 q2 q3 q4 hI hb0 hf0 hl hr0 hrv hv hc1 ho hn hm hm0 h0
    cases neg
    · go_wp2_with (go_at_call 100; refine (Ldexp_any _ _ KB.out KF.out (by omega) _).mono ?_; rintro e w' ⟨rfl, rfl⟩)
      go_ret2
      exact ⟨ret_fb (by rw [K4.out]; exact (word_false _).symm) (by rw [K1.out]), rfl⟩
    · go_wp2_with (first
        | (go_at_call 100; refine (Ldexp_any _ _ KB.out KF.out (by omega) _).mono ?_; rintro e w' ⟨rfl, rfl⟩)
        | (go_at_call 101; refine (copysign_any _ _ KL.out (by decide) _).mono ?_; rintro e w' ⟨rfl, rfl⟩))
      go_ret2
      exact ⟨ret_fb (by rw [K4.out, KQ.out]; rfl) (by rw [K1.out]), rfl⟩
  · rw [decide_eq_false hc] at his
    subst his
    have hno := fit_no ho hn hc
    rw [hv] at hno
    obtain ⟨q1, q2⟩ := make_no (by omega) hno
    have K1 := Lib.hid q1
    have K2 := Lib.hid (q2 neg)
    clear hno q1 q2 hc hv ho hn hm hm0 h0
    go_wp2
    go_ret2
    exact ⟨ret_fb K2.out.symm K1.out.symm, rfl⟩

theorem make_any (neg : Bool) (m : Nat) (e : Int) (hm : m < 18446744073709551616) (w : World) :
    Calls Try.prog 94 #[.bool neg, .int .u64 (m : Int), .int .i64 e] w fun en w' => en = .returned (.tuple #[.float .f64 (makeF neg m e), .bool (makeB m e)]) ∧ w = w' := by
  by_cases h0 : m = 0
  · subst h0
    have e1 : makeF neg 0 e = D.word neg 0 := by unfold makeF; rw [if_pos rfl]
    have e2 : makeB 0 e = true := by unfold makeB; simp
    rw [e1, e2]
    exact make_zero neg e w
  · have hne : ((m : Int) != 0) = true := by rw [bne_iff_ne]; omega
    by_cases h1 : e < -5000
    · obtain ⟨q1, q2⟩ := make_no h0 (rep_no_far (e := e) h0 hm (by omega))
      rw [q1, q2 neg]; exact make_far neg m e hne (.inl h1) w
    · by_cases h2 : 5000 < e
      · obtain ⟨q1, q2⟩ := make_no h0 (rep_no_far (e := e) h0 hm (by omega))
        rw [q1, q2 neg]; exact make_far neg m e hne (.inr h2) w
      · exact make_near neg m e hm (by omega) hne h1 h2 w

end Go.Proofs.Ytigacobphgeeaaa

/- Contracts of package bits: Split, Pow, Scale, Top, In, Same. -/
namespace Go.Proofs.Ytigacobphgeeaaa
open Go.RowKit Lev

attribute [local go_sem] run_fbits run_frombits order_lt order_gt order_eq order_ne flt_or_feq flt_or_feq'

/-- What Split answers. -/
def splitV (b : Nat) : Value := .tuple #[.bool (nS b), .int .u64 (mS b : Int), .int .i64 (eS b), .int .i64 (kindS b)]

theorem splitV_1 {b : Nat} (h : kindS b = 1) : splitV b = .tuple #[.bool (sg b), .int .u64 (mantS b), .int .i64 (expS b), .int .i64 1] := by
  unfold splitV nS mS eS; rw [h]; simp
theorem splitV_3 {b : Nat} (h : kindS b = 3) : splitV b = .tuple #[.bool false, .int .u64 0, .int .i64 0, .int .i64 3] := by
  unfold splitV nS mS eS; rw [h]; simp
theorem splitV_0 {b : Nat} (h : kindS b = 0) : splitV b = .tuple #[.bool (sg b), .int .u64 0, .int .i64 0, .int .i64 0] := by
  unfold splitV nS mS eS; rw [h]; simp
theorem splitV_2 {b : Nat} (h : kindS b = 2) : splitV b = .tuple #[.bool (sg b), .int .u64 0, .int .i64 0, .int .i64 2] := by
  unfold splitV nS mS eS; rw [h]; simp

theorem kind_cases (b : Nat) : kindS b = 0 ∨ (kindS b = 1 ∧ fin b ∧ rg b ≠ 0) ∨ kindS b = 2 ∨ kindS b = 3 := by
  have hI := INF_eq
  by_cases h1 : INF < rg b
  · exact .inr (.inr (.inr (kindS_nan h1)))
  · by_cases h2 : rg b = INF
    · exact .inr (.inr (.inl (kindS_inf h2)))
    · by_cases h3 : rg b = 0
      · exact .inl (kindS_zero h3)
      · exact .inr (.inl ⟨kindS_fin (by unfold fin; omega) h3, by unfold fin; omega, h3⟩)

set_option maxHeartbeats 400000 in
theorem pow_any (k : Int) (w : World) :
    Calls Try.prog 77 #[.int .i64 k] w fun e w' => e = .returned (.float .f64 (makeF false 1 k)) ∧ w = w' := by
  have H := Lib.hid (fun w => make_any false 1 k (by decide) w)
  cases hb : makeB 1 k
  · have h0 : makeF false 1 k = 0 := by unfold makeF; rw [if_neg (by decide), if_neg (by rw [hb]; decide)]
    rw [h0]
    rw [h0, hb] at H
    clear hb h0
    go_enter Try.func77, Try.ntmps77
    go_wp2_with (go_at_call 94; refine (H.out _).mono ?_; rintro e w' ⟨rfl, rfl⟩)
    go_ret
    exact ⟨rfl, rfl⟩
  · rw [hb] at H
    clear hb
    go_enter Try.func77, Try.ntmps77
    go_wp2_with (go_at_call 94; refine (H.out _).mono ?_; rintro e w' ⟨rfl, rfl⟩)
    go_ret
    exact ⟨rfl, rfl⟩

theorem expS_hi {b : Nat} (h : fin b) : expS b ≤ 971 := by
  have := INF_eq
  unfold fin at h
  unfold expS; split <;> omega

set_option maxHeartbeats 400000 in
theorem top_any (b : Nat) (hb : b < 18446744073709551616) (w : World) :
    Calls Try.prog 76 #[.float .f64 b] w fun e w' => e = .returned (.int .i64 (topB b)) ∧ w = w' := by
  rcases kind_cases b with h | ⟨h, hf, h0⟩ | h | h
  case inr.inl =>
    have e1 : topB b = topS b := by unfold topB; rw [if_pos h]
    have H := Lib.hid (fun w => kind_is hb h w)
    have HF := Lib.hid (fun w => Frexp_fin b hb hf h0 w)
    have hlo := topS_lo b
    have hhi := topS_hi hf
    rw [e1]
    clear h e1 h0
    go_enter Try.func76, Try.ntmps76
    go_wp2_with (first
      | (go_at_call 92; refine (H.out _).mono ?_; rintro e w' ⟨rfl, rfl⟩)
      | (go_at_call 93; refine (HF.out _).mono ?_; rintro e w' ⟨rfl, rfl⟩))
    go_ret
    exact ⟨ret_int (by omega), rfl⟩
  all_goals
    have e1 : topB b = -2000 := by unfold topB; rw [if_neg (by omega)]
    have H := Lib.hid (fun w => kind_is hb h w)
    rw [e1]
    clear h e1
    go_enter Try.func76, Try.ntmps76
    go_wp2_with (go_at_call 92; refine (H.out _).mono ?_; rintro e w' ⟨rfl, rfl⟩)
    go_ret
    exact ⟨rfl, rfl⟩

end Go.Proofs.Ytigacobphgeeaaa

/- Contracts of the document's answers for layer 1, and of bits.In. -/
namespace Go.Proofs.Ytigacobphgeeaaa
open Go.RowKit Lev

attribute [local go_sem] run_fbits run_frombits order_lt order_gt order_eq order_ne flt_or_feq flt_or_feq'

theorem makeF_pow (E : Nat) (h1 : 1 ≤ E) (h2 : E ≤ 2046) : makeB 1 ((E : Int) - 1023) = true ∧ makeF false 1 ((E : Int) - 1023) = E * 4503599627370496 := by
  have hI := INF_eq
  have h3 := rm_pow (E - 1)
  have h4 : (E - 1) * 4503599627370496 + 4503599627370496 = E * 4503599627370496 := by omega
  have h5 : ((E - 1 : Nat) : Int) + 52 + -1074 = (E : Int) - 1023 := by omega
  rw [h4, h5] at h3
  have h6 : (rm (E * 4503599627370496) : Rat) * pw (-1074) = ((1 : Nat) : Rat) * pw ((E : Int) - 1023) := by
    rw [h3, show ((1 : Nat) : Rat) = 1 from rfl, Rat.one_mul]
  obtain ⟨a, b⟩ := make_yes (neg := false) (by omega) h6
  exact ⟨a, by rw [b, word_false]⟩
theorem pow_is {k : Int} {r : Nat} (h : makeF false 1 k = r) (w : World) :
    Calls Try.prog 77 #[.int .i64 k] w fun e w' => e = .returned (.float .f64 r) ∧ w = w' := by
  rw [← h]; exact pow_any k w
theorem p_400 : makeF false 1 (-400) = 2805742567851819008 := (makeF_pow 623 (by decide) (by decide)).2
theorem p400 : makeF false 1 400 = 6408622269748215808 := (makeF_pow 1423 (by decide) (by decide)).2

attribute [local go_sem] p_400 p400

theorem fle_lo (b : Nat) : fle 2805742567851819008 (rg b) = decide (2805742567851819008 ≤ rg b ∧ rg b ≤ INF) := by
  have h1 : ord 2805742567851819008 = 2805742567851819008 := by decide
  have h2 : rg 2805742567851819008 = 2805742567851819008 := by decide
  unfold fle
  rw [ord_rg, h1, h2, rg_rg, decide_eq_decide, INF_eq]; omega
theorem fle_hi (b : Nat) : fle (rg b) 6408622269748215808 = decide (rg b ≤ 6408622269748215808) := by
  have h1 : ord 6408622269748215808 = 6408622269748215808 := by decide
  have h2 : rg 6408622269748215808 = 6408622269748215808 := by decide
  unfold fle
  rw [ord_rg, h1, h2, rg_rg, decide_eq_decide, INF_eq]; omega

end Go.Proofs.Ytigacobphgeeaaa

/- Contracts of the document's answers for layer 1. -/
namespace Go.Proofs.Ytigacobphgeeaaa
open Go.RowKit Lev

attribute [local go_sem] run_fbits run_frombits order_lt order_gt order_eq order_ne flt_or_feq flt_or_feq' p_400 p400

theorem neg_bit {b : Nat} (hb : b < 18446744073709551616) : ((b : Int) / 9223372036854775808 == 1) = sg b := by
  rw [sg_lt hb, Bool.eq_iff_iff, beq_iff_eq, decide_eq_true_eq]; omega
theorem frac_bits {b : Nat} (hb : b < 18446744073709551616) : bits .and .u64 (b : Int) 4503599627370495 = (rg b % 4503599627370496 : Nat) := by
  have h := u64_and_nat b 4503599627370495 hb (by decide)
  rw [and52, mod52] at h
  exact h

set_option maxHeartbeats 400000 in
theorem rsplit_any (b : Nat) (hb : b < 18446744073709551616) (w : World) :
    Calls Try.prog 42 #[.float .f64 b] w fun e w' => e = .returned (splitV b) ∧ w = w' := by
  have hI := INF_eq
  have h1 := neg_bit hb
  have h2 := get_exp hb
  have h3 := frac_bits hb
  have hm : mantS b = if rg b / 4503599627370496 = 0 then rg b % 4503599627370496 else 4503599627370496 + rg b % 4503599627370496 := by
    unfold mantS; split <;> split <;> omega
  have he : expS b = if rg b / 4503599627370496 = 0 then (-1074 : Int) else ((rg b / 4503599627370496 : Nat) : Int) - 1075 := by
    unfold expS; split <;> split <;> omega
  have hq : rg b / 4503599627370496 < 2048 := efield b
  have hf : rg b % 4503599627370496 < 4503599627370496 := Nat.mod_lt _ (by decide)
  have hk : kindS b = if rg b / 4503599627370496 = 2047 then (if rg b % 4503599627370496 = 0 then 2 else 3) else (if rg b / 4503599627370496 = 0 ∧ rg b % 4503599627370496 = 0 then 0 else 1) := by
    unfold kindS; repeat' split
    all_goals omega
  generalize rg b / 4503599627370496 = q at *
  generalize rg b % 4503599627370496 = f at *
  have HM := Lib.hid hm; have HE := Lib.hid he; have HK := Lib.hid hk
  clear hm he hk hI
  by_cases c1 : q = 2047
  · subst c1
    by_cases c2 : f = 0
    · subst c2
      rw [splitV_2 (by rw [HK.out]; rfl)]
      go_enter Try.func42, Try.ntmps42
      go_wp2
      refine bodyPost_ret (results_tmp4 rfl _ _ _) rfl ?_
      exact ⟨rfl, rfl⟩
    · rw [splitV_3 (by rw [HK.out, if_pos rfl, if_neg c2])]
      have c3 : ((f : Int) != 0) = true := by rw [bne_iff_ne]; omega
      clear c2
      go_enter Try.func42, Try.ntmps42
      go_wp2
      refine bodyPost_ret (results_tmp4 rfl _ _ _) rfl ?_
      exact ⟨rfl, rfl⟩
  · have c3 : ((q : Int) == 2047) = false := by rw [beq_eq_false_iff_ne]; omega
    by_cases c4 : q = 0
    · subst c4
      by_cases c2 : f = 0
      · subst c2
        rw [splitV_0 (by rw [HK.out]; rfl)]
        clear c3 c1
        go_enter Try.func42, Try.ntmps42
        go_wp2
        refine bodyPost_ret (results_tmp4 rfl _ _ _) rfl ?_
        exact ⟨rfl, rfl⟩
      · have c5 : ((f : Int) == 0) = false := by rw [beq_eq_false_iff_ne]; omega
        rw [splitV_1 (by rw [HK.out, if_neg (by decide), if_neg (by omega)]), HM.out, HE.out, if_pos rfl, if_pos rfl]
        clear c3 c1 c2
        go_enter Try.func42, Try.ntmps42
        go_wp2
        refine bodyPost_ret (results_tmp4 rfl _ _ _) rfl ?_
        exact ⟨rfl, rfl⟩
    · have c5 : ((q : Int) == 0) = false := by rw [beq_eq_false_iff_ne]; omega
      rw [splitV_1 (by rw [HK.out, if_neg c1, if_neg (by omega)]), HM.out, HE.out, if_neg c4, if_neg c4]
      clear c1 c4
      go_enter Try.func42, Try.ntmps42
      go_wp2
      refine bodyPost_ret (results_tmp4 rfl _ _ _) rfl ?_
      exact ⟨ret_split4 rfl (by omega) rfl rfl, rfl⟩


set_option maxHeartbeats 1000000 in
set_option maxRecDepth 100000 in
theorem rmake_pos (m : Nat) (e : Int) (hm : m < 18446744073709551616) (hm0 : 0 < m) (h1 : ((m : Int) == 0) = false) (h2 : ¬ e < -2000) (h3 : ¬ 2000 < e) (w : World) :
    Calls Try.prog 86 #[.bool false, .int .u64 (m : Int), .int .i64 e] w fun en w' => en = .returned (.tuple #[.float .f64 (makeF false m e), .bool (makeB m e)]) ∧ w = w' := by
  go_enter Try.func86, Try.ntmps86
  go_wp2
  go_loop [1, 2] (fun a x => ∃ M j : Nat, M * 2 ^ j = m ∧ 0 < M ∧ a = .int .u64 (M : Int) ∧ x = .int .i64 (e + (j : Int))) (fun a _ => (intOf a).toNat)
  case atStart => exact ⟨m, 0, by simp, hm0, rfl, by simp⟩
  case round =>
    obtain ⟨M, j, hM, hM0, rfl, rfl⟩ := hrel
    have hj := shift_few hM hM0 hm
    have hMm := shift_le hM
    have KV := Lib.hid (shift_val (e := e) hM)
    have KM := Lib.hid hM; clear hM
    have i0 : 1 ≤ (M : Int) := by omega
    have i64 : (M : Int) ≤ 18446744073709551615 := by omega
    have Km := Lib.hid hm; have KMm := Lib.hid hMm
    clear hm hMm hm0 h1
    obtain ⟨E, hE⟩ : ∃ E : Int, E = e + j := ⟨_, rfl⟩
    rw [← hE] at KV ⊢
    have hE1 : -2000 ≤ E ∧ E ≤ 2064 := by omega
    have KE := Lib.hid hE; clear hE h2 h3
    by_cases c1 : M % 2 = 0
    · have d1 : ((M : Int) % 2 == 0) = true := by rw [beq_iff_eq]; omega
      have KP := Lib.hid c1; clear c1
      by_cases c2 : 9007199254740992 ≤ M
      · have d2 : decide (9007199254740992 ≤ (M : Int)) = true := decide_eq_true (by omega)
        have KC := Lib.hid c2; clear c2
        go_wp2
        go_round
        case rel => exact ⟨M / 2, j + 1, shift_half KM.out KP.out, by have := KP.out; omega, by simp, by rw [KE.out]; go_num⟩
        case measure => simp [intOf]; omega
      · have d2 : decide (9007199254740992 ≤ (M : Int)) = false := decide_eq_false (by omega)
        have KC := Lib.hid c2; clear c2
        by_cases c3 : E < -1074
        · have d3 : decide (E < -1074) = true := decide_eq_true c3
          have KD := Lib.hid c3; clear c3
          go_wp2
          go_round
          case rel => exact ⟨M / 2, j + 1, shift_half KM.out KP.out, by have := KP.out; omega, by simp, by rw [KE.out]; go_num⟩
          case measure => simp [intOf]; omega
        · have d3 : decide (E < -1074) = false := decide_eq_false c3
          have hor : M % 2 = 1 ∨ (M < 9007199254740992 ∧ -1074 ≤ E) := .inr ⟨by have := KC.out; omega, by omega⟩
          have KO := Lib.hid hor; clear hor
          have KD := Lib.hid c3; clear c3
          go_wp2
          clear d1
          go_loop [1, 2] (fun a x => ∃ (N : Nat) (F : Int), (N : Rat) * pw F = (m : Rat) * pw e ∧ N < 18446744073709551616 ∧ 0 < N ∧ F ≤ E ∧ -2000 ≤ F ∧ (N % 2 = 1 ∨ (N < 9007199254740992 ∧ -1074 ≤ F)) ∧ a = .int .u64 (N : Int) ∧ x = .int .i64 F) (fun _ x => (intOf x + 1074).toNat)
          case atStart => exact ⟨M, E, KV.out, by omega, hM0, Int.le_refl _, by omega, KO.out, rfl, rfl⟩
          case round =>
            obtain ⟨N, F, hN, hN64, hN0, hFE, hFlo, hNO, rfl, rfl⟩ := hrel
            have KN := Lib.hid hN; clear hN
            have KNO := Lib.hid hNO; clear hNO
            have j0 : 1 ≤ (N : Int) := by omega
            have j64 : (N : Int) ≤ 18446744073709551615 := by omega
            have K64 := Lib.hid hN64; clear hN64
            by_cases hc : N < 4503599627370496 ∧ -1074 < F
            · obtain ⟨hc1, hc2⟩ := hc
              have e1 : decide ((N : Int) < 4503599627370496) = true := decide_eq_true (by omega)
              have e2 : decide (-1074 < F) = true := decide_eq_true hc2
              have u1 : (N : Int) ≤ 4503599627370495 := by omega
              have KC1 := Lib.hid hc1; have KC2 := Lib.hid hc2
              clear hc1 hc2
              go_wp2
              go_round
              case rel => exact ⟨2 * N, F - 1, by rw [double_val]; exact KN.out, by have := KC1.out; omega, by omega, by omega, by have := KC2.out; omega, .inr ⟨by have := KC1.out; omega, by have := KC2.out; omega⟩, by first | go_num | (congr 1; omega), by first | rfl | go_num⟩
              case measure => have := KC2.out; simp [intOf]; omega
            · have KC := Lib.hid hc
              by_cases hn : 9007199254740992 ≤ N ∨ F < -1074 ∨ 971 < F
              · have hno := ref_no KNO.out hc hn
                rw [KN.out] at hno
                obtain ⟨q1, q2⟩ := make_no (by have := shift_le KM.out; omega) hno
                have K1 := Lib.hid q1
                have K2 := Lib.hid (q2 false)
                clear hno q1 q2
                rcases hn with hn | hn | hn
                · have e1 : decide ((N : Int) < 4503599627370496) = false := decide_eq_false (by omega)
                  have e2 : decide (9007199254740992 ≤ (N : Int)) = true := decide_eq_true (by omega)
                  clear hn hc
                  go_wp2
                  go_ret2
                  exact ⟨ret_fb K2.out.symm K1.out.symm, rfl⟩
                · have e3 : decide (-1074 < F) = false := decide_eq_false (by omega)
                  have e4 : decide (F < -1074) = true := decide_eq_true hn
                  clear hn hc
                  by_cases hx : N < 4503599627370496
                  · have e1 : decide ((N : Int) < 4503599627370496) = true := decide_eq_true (by omega)
                    have e2 : decide (9007199254740992 ≤ (N : Int)) = false := decide_eq_false (by omega)
                    clear hx
                    go_wp2
                    go_ret2
                    exact ⟨ret_fb K2.out.symm K1.out.symm, rfl⟩
                  · have e1 : decide ((N : Int) < 4503599627370496) = false := decide_eq_false (by omega)
                    clear hx
                    by_cases hy : 9007199254740992 ≤ N
                    · have e2 : decide (9007199254740992 ≤ (N : Int)) = true := decide_eq_true (by omega)
                      clear hy
                      go_wp2
                      go_ret2
                      exact ⟨ret_fb K2.out.symm K1.out.symm, rfl⟩
                    · have e2 : decide (9007199254740992 ≤ (N : Int)) = false := decide_eq_false (by omega)
                      clear hy
                      go_wp2
                      go_ret2
                      exact ⟨ret_fb K2.out.symm K1.out.symm, rfl⟩
                · have e3 : decide (-1074 < F) = true := decide_eq_true (by omega)
                  have e4 : decide (F < -1074) = false := decide_eq_false (by omega)
                  have e5 : decide (971 < F) = true := decide_eq_true hn
                  have e1 : decide ((N : Int) < 4503599627370496) = false := decide_eq_false (by omega)
                  clear hn hc
                  by_cases hy : 9007199254740992 ≤ N
                  · have e2 : decide (9007199254740992 ≤ (N : Int)) = true := decide_eq_true (by omega)
                    clear hy
                    go_wp2
                    go_ret2
                    exact ⟨ret_fb K2.out.symm K1.out.symm, rfl⟩
                  · have e2 : decide (9007199254740992 ≤ (N : Int)) = false := decide_eq_false (by omega)
                    clear hy
                    go_wp2
                    go_ret2
                    exact ⟨ret_fb K2.out.symm K1.out.symm, rfl⟩
              · have e2 : decide (9007199254740992 ≤ (N : Int)) = false := decide_eq_false (by omega)
                have e4 : decide (F < -1074) = false := decide_eq_false (by omega)
                have e5 : decide (971 < F) = false := decide_eq_false (by omega)
                by_cases hx : N < 4503599627370496
                · have e1 : decide ((N : Int) < 4503599627370496) = true := decide_eq_true (by omega)
                  have e3 : decide (-1074 < F) = false := decide_eq_false (by omega)
                  have hF : F = -1074 := by omega
                  have hI := INF_eq
                  have hr := make_yes (neg := false) (m := m) (e := e) (r := N) (by omega) (by rw [← KN.out, hF]; have := rm_seg 0 N (.inl rfl) (by omega); simp at this; rw [this])
                  have K1 := Lib.hid hr.1
                  have K2 := Lib.hid hr.2
                  have u1 : (N : Int) ≤ 4503599627370495 := by omega
                  clear hr hx hc hn hF hI
                  go_wp2
                  go_ret2
                  exact ⟨ret_fb (by rw [K2.out, word_eq]; simp; try omega) K1.out.symm, rfl⟩
                · have e1 : decide ((N : Int) < 4503599627370496) = false := decide_eq_false (by omega)
                  have hI := INF_eq
                  obtain ⟨G, hG⟩ : ∃ G : Nat, (G : Int) = F + 1074 := ⟨(F + 1074).toNat, by omega⟩
                  have hr := make_yes (neg := false) (m := m) (e := e) (r := G * 4503599627370496 + N) (by omega) (by
                    rw [← KN.out, rm_seg G N (.inr (by omega)) (by omega), Rat.natCast_mul, ← pw_nat, Rat.mul_assoc, ← pw_add, show (G : Int) + -1074 = F from by omega])
                  have K1 := Lib.hid hr.1
                  have K2 := Lib.hid hr.2
                  have u1 : (N : Int) ≤ 9007199254740991 := by omega
                  have u2 : 4503599627370496 ≤ (N : Int) := by omega
                  have u3 : -1074 ≤ F ∧ F ≤ 971 := by omega
                  have KG := Lib.hid hG
                  clear hr hx hc hn hI hG
                  go_wp2
                  go_ret2
                  exact ⟨ret_fb (by rw [K2.out, word_eq]; have := KG.out; simp; try omega) K1.out.symm, rfl⟩
    · have d1 : ((M : Int) % 2 == 0) = false := by rw [beq_eq_false_iff_ne]; omega
      have hor : M % 2 = 1 ∨ (M < 9007199254740992 ∧ -1074 ≤ E) := .inl (by omega)
      have KO := Lib.hid hor; clear hor
      have KP := Lib.hid c1; clear c1
      go_wp2
      clear d1
      go_loop [1, 2] (fun a x => ∃ (N : Nat) (F : Int), (N : Rat) * pw F = (m : Rat) * pw e ∧ N < 18446744073709551616 ∧ 0 < N ∧ F ≤ E ∧ -2000 ≤ F ∧ (N % 2 = 1 ∨ (N < 9007199254740992 ∧ -1074 ≤ F)) ∧ a = .int .u64 (N : Int) ∧ x = .int .i64 F) (fun _ x => (intOf x + 1074).toNat)
      case atStart => exact ⟨M, E, KV.out, by omega, hM0, Int.le_refl _, by omega, KO.out, rfl, rfl⟩
      case round =>
        obtain ⟨N, F, hN, hN64, hN0, hFE, hFlo, hNO, rfl, rfl⟩ := hrel
        have KN := Lib.hid hN; clear hN
        have KNO := Lib.hid hNO; clear hNO
        have j0 : 1 ≤ (N : Int) := by omega
        have j64 : (N : Int) ≤ 18446744073709551615 := by omega
        have K64 := Lib.hid hN64; clear hN64
        by_cases hc : N < 4503599627370496 ∧ -1074 < F
        · obtain ⟨hc1, hc2⟩ := hc
          have e1 : decide ((N : Int) < 4503599627370496) = true := decide_eq_true (by omega)
          have e2 : decide (-1074 < F) = true := decide_eq_true hc2
          have u1 : (N : Int) ≤ 4503599627370495 := by omega
          have KC1 := Lib.hid hc1; have KC2 := Lib.hid hc2
          clear hc1 hc2
          go_wp2
          go_round
          case rel => exact ⟨2 * N, F - 1, by rw [double_val]; exact KN.out, by have := KC1.out; omega, by omega, by omega, by have := KC2.out; omega, .inr ⟨by have := KC1.out; omega, by have := KC2.out; omega⟩, by first | go_num | (congr 1; omega), by first | rfl | go_num⟩
          case measure => have := KC2.out; simp [intOf]; omega
        · have KC := Lib.hid hc
          by_cases hn : 9007199254740992 ≤ N ∨ F < -1074 ∨ 971 < F
          · have hno := ref_no KNO.out hc hn
            rw [KN.out] at hno
            obtain ⟨q1, q2⟩ := make_no (by have := shift_le KM.out; omega) hno
            have K1 := Lib.hid q1
            have K2 := Lib.hid (q2 false)
            clear hno q1 q2
            rcases hn with hn | hn | hn
            · have e1 : decide ((N : Int) < 4503599627370496) = false := decide_eq_false (by omega)
              have e2 : decide (9007199254740992 ≤ (N : Int)) = true := decide_eq_true (by omega)
              clear hn hc
              go_wp2
              go_ret2
              exact ⟨ret_fb K2.out.symm K1.out.symm, rfl⟩
            · have e3 : decide (-1074 < F) = false := decide_eq_false (by omega)
              have e4 : decide (F < -1074) = true := decide_eq_true hn
              clear hn hc
              by_cases hx : N < 4503599627370496
              · have e1 : decide ((N : Int) < 4503599627370496) = true := decide_eq_true (by omega)
                have e2 : decide (9007199254740992 ≤ (N : Int)) = false := decide_eq_false (by omega)
                clear hx
                go_wp2
                go_ret2
                exact ⟨ret_fb K2.out.symm K1.out.symm, rfl⟩
              · have e1 : decide ((N : Int) < 4503599627370496) = false := decide_eq_false (by omega)
                clear hx
                by_cases hy : 9007199254740992 ≤ N
                · have e2 : decide (9007199254740992 ≤ (N : Int)) = true := decide_eq_true (by omega)
                  clear hy
                  go_wp2
                  go_ret2
                  exact ⟨ret_fb K2.out.symm K1.out.symm, rfl⟩
                · have e2 : decide (9007199254740992 ≤ (N : Int)) = false := decide_eq_false (by omega)
                  clear hy
                  go_wp2
                  go_ret2
                  exact ⟨ret_fb K2.out.symm K1.out.symm, rfl⟩
            · have e3 : decide (-1074 < F) = true := decide_eq_true (by omega)
              have e4 : decide (F < -1074) = false := decide_eq_false (by omega)
              have e5 : decide (971 < F) = true := decide_eq_true hn
              have e1 : decide ((N : Int) < 4503599627370496) = false := decide_eq_false (by omega)
              clear hn hc
              by_cases hy : 9007199254740992 ≤ N
              · have e2 : decide (9007199254740992 ≤ (N : Int)) = true := decide_eq_true (by omega)
                clear hy
                go_wp2
                go_ret2
                exact ⟨ret_fb K2.out.symm K1.out.symm, rfl⟩
              · have e2 : decide (9007199254740992 ≤ (N : Int)) = false := decide_eq_false (by omega)
                clear hy
                go_wp2
                go_ret2
                exact ⟨ret_fb K2.out.symm K1.out.symm, rfl⟩
          · have e2 : decide (9007199254740992 ≤ (N : Int)) = false := decide_eq_false (by omega)
            have e4 : decide (F < -1074) = false := decide_eq_false (by omega)
            have e5 : decide (971 < F) = false := decide_eq_false (by omega)
            by_cases hx : N < 4503599627370496
            · have e1 : decide ((N : Int) < 4503599627370496) = true := decide_eq_true (by omega)
              have e3 : decide (-1074 < F) = false := decide_eq_false (by omega)
              have hF : F = -1074 := by omega
              have hI := INF_eq
              have hr := make_yes (neg := false) (m := m) (e := e) (r := N) (by omega) (by rw [← KN.out, hF]; have := rm_seg 0 N (.inl rfl) (by omega); simp at this; rw [this])
              have K1 := Lib.hid hr.1
              have K2 := Lib.hid hr.2
              have u1 : (N : Int) ≤ 4503599627370495 := by omega
              clear hr hx hc hn hF hI
              go_wp2
              go_ret2
              exact ⟨ret_fb (by rw [K2.out, word_eq]; simp; try omega) K1.out.symm, rfl⟩
            · have e1 : decide ((N : Int) < 4503599627370496) = false := decide_eq_false (by omega)
              have hI := INF_eq
              obtain ⟨G, hG⟩ : ∃ G : Nat, (G : Int) = F + 1074 := ⟨(F + 1074).toNat, by omega⟩
              have hr := make_yes (neg := false) (m := m) (e := e) (r := G * 4503599627370496 + N) (by omega) (by
                rw [← KN.out, rm_seg G N (.inr (by omega)) (by omega), Rat.natCast_mul, ← pw_nat, Rat.mul_assoc, ← pw_add, show (G : Int) + -1074 = F from by omega])
              have K1 := Lib.hid hr.1
              have K2 := Lib.hid hr.2
              have u1 : (N : Int) ≤ 9007199254740991 := by omega
              have u2 : 4503599627370496 ≤ (N : Int) := by omega
              have u3 : -1074 ≤ F ∧ F ≤ 971 := by omega
              have KG := Lib.hid hG
              clear hr hx hc hn hI hG
              go_wp2
              go_ret2
              exact ⟨ret_fb (by rw [K2.out, word_eq]; have := KG.out; simp; try omega) K1.out.symm, rfl⟩

set_option maxHeartbeats 1000000 in
set_option maxRecDepth 100000 in
theorem rmake_neg (m : Nat) (e : Int) (hm : m < 18446744073709551616) (hm0 : 0 < m) (h1 : ((m : Int) == 0) = false) (h2 : ¬ e < -2000) (h3 : ¬ 2000 < e) (w : World) :
    Calls Try.prog 86 #[.bool true, .int .u64 (m : Int), .int .i64 e] w fun en w' => en = .returned (.tuple #[.float .f64 (makeF true m e), .bool (makeB m e)]) ∧ w = w' := by
  go_enter Try.func86, Try.ntmps86
  go_wp2
  go_loop [1, 2] (fun a x => ∃ M j : Nat, M * 2 ^ j = m ∧ 0 < M ∧ a = .int .u64 (M : Int) ∧ x = .int .i64 (e + (j : Int))) (fun a _ => (intOf a).toNat)
  case atStart => exact ⟨m, 0, by simp, hm0, rfl, by simp⟩
  case round =>
    obtain ⟨M, j, hM, hM0, rfl, rfl⟩ := hrel
    have hj := shift_few hM hM0 hm
    have hMm := shift_le hM
    have KV := Lib.hid (shift_val (e := e) hM)
    have KM := Lib.hid hM; clear hM
    have i0 : 1 ≤ (M : Int) := by omega
    have i64 : (M : Int) ≤ 18446744073709551615 := by omega
    have Km := Lib.hid hm; have KMm := Lib.hid hMm
    clear hm hMm hm0 h1
    obtain ⟨E, hE⟩ : ∃ E : Int, E = e + j := ⟨_, rfl⟩
    rw [← hE] at KV ⊢
    have hE1 : -2000 ≤ E ∧ E ≤ 2064 := by omega
    have KE := Lib.hid hE; clear hE h2 h3
    by_cases c1 : M % 2 = 0
    · have d1 : ((M : Int) % 2 == 0) = true := by rw [beq_iff_eq]; omega
      have KP := Lib.hid c1; clear c1
      by_cases c2 : 9007199254740992 ≤ M
      · have d2 : decide (9007199254740992 ≤ (M : Int)) = true := decide_eq_true (by omega)
        have KC := Lib.hid c2; clear c2
        go_wp2
        go_round
        case rel => exact ⟨M / 2, j + 1, shift_half KM.out KP.out, by have := KP.out; omega, by simp, by rw [KE.out]; go_num⟩
        case measure => simp [intOf]; omega
      · have d2 : decide (9007199254740992 ≤ (M : Int)) = false := decide_eq_false (by omega)
        have KC := Lib.hid c2; clear c2
        by_cases c3 : E < -1074
        · have d3 : decide (E < -1074) = true := decide_eq_true c3
          have KD := Lib.hid c3; clear c3
          go_wp2
          go_round
          case rel => exact ⟨M / 2, j + 1, shift_half KM.out KP.out, by have := KP.out; omega, by simp, by rw [KE.out]; go_num⟩
          case measure => simp [intOf]; omega
        · have d3 : decide (E < -1074) = false := decide_eq_false c3
          have hor : M % 2 = 1 ∨ (M < 9007199254740992 ∧ -1074 ≤ E) := .inr ⟨by have := KC.out; omega, by omega⟩
          have KO := Lib.hid hor; clear hor
          have KD := Lib.hid c3; clear c3
          go_wp2
          clear d1
          go_loop [1, 2] (fun a x => ∃ (N : Nat) (F : Int), (N : Rat) * pw F = (m : Rat) * pw e ∧ N < 18446744073709551616 ∧ 0 < N ∧ F ≤ E ∧ -2000 ≤ F ∧ (N % 2 = 1 ∨ (N < 9007199254740992 ∧ -1074 ≤ F)) ∧ a = .int .u64 (N : Int) ∧ x = .int .i64 F) (fun _ x => (intOf x + 1074).toNat)
          case atStart => exact ⟨M, E, KV.out, by omega, hM0, Int.le_refl _, by omega, KO.out, rfl, rfl⟩
          case round =>
            obtain ⟨N, F, hN, hN64, hN0, hFE, hFlo, hNO, rfl, rfl⟩ := hrel
            have KN := Lib.hid hN; clear hN
            have KNO := Lib.hid hNO; clear hNO
            have j0 : 1 ≤ (N : Int) := by omega
            have j64 : (N : Int) ≤ 18446744073709551615 := by omega
            have K64 := Lib.hid hN64; clear hN64
            by_cases hc : N < 4503599627370496 ∧ -1074 < F
            · obtain ⟨hc1, hc2⟩ := hc
              have e1 : decide ((N : Int) < 4503599627370496) = true := decide_eq_true (by omega)
              have e2 : decide (-1074 < F) = true := decide_eq_true hc2
              have u1 : (N : Int) ≤ 4503599627370495 := by omega
              have KC1 := Lib.hid hc1; have KC2 := Lib.hid hc2
              clear hc1 hc2
              go_wp2
              go_round
              case rel => exact ⟨2 * N, F - 1, by rw [double_val]; exact KN.out, by have := KC1.out; omega, by omega, by omega, by have := KC2.out; omega, .inr ⟨by have := KC1.out; omega, by have := KC2.out; omega⟩, by first | go_num | (congr 1; omega), by first | rfl | go_num⟩
              case measure => have := KC2.out; simp [intOf]; omega
            · have KC := Lib.hid hc
              by_cases hn : 9007199254740992 ≤ N ∨ F < -1074 ∨ 971 < F
              · have hno := ref_no KNO.out hc hn
                rw [KN.out] at hno
                obtain ⟨q1, q2⟩ := make_no (by have := shift_le KM.out; omega) hno
                have K1 := Lib.hid q1
                have K2 := Lib.hid (q2 true)
                clear hno q1 q2
                rcases hn with hn | hn | hn
                · have e1 : decide ((N : Int) < 4503599627370496) = false := decide_eq_false (by omega)
                  have e2 : decide (9007199254740992 ≤ (N : Int)) = true := decide_eq_true (by omega)
                  clear hn hc
                  go_wp2
                  go_ret2
                  exact ⟨ret_fb K2.out.symm K1.out.symm, rfl⟩
                · have e3 : decide (-1074 < F) = false := decide_eq_false (by omega)
                  have e4 : decide (F < -1074) = true := decide_eq_true hn
                  clear hn hc
                  by_cases hx : N < 4503599627370496
                  · have e1 : decide ((N : Int) < 4503599627370496) = true := decide_eq_true (by omega)
                    have e2 : decide (9007199254740992 ≤ (N : Int)) = false := decide_eq_false (by omega)
                    clear hx
                    go_wp2
                    go_ret2
                    exact ⟨ret_fb K2.out.symm K1.out.symm, rfl⟩
                  · have e1 : decide ((N : Int) < 4503599627370496) = false := decide_eq_false (by omega)
                    clear hx
                    by_cases hy : 9007199254740992 ≤ N
                    · have e2 : decide (9007199254740992 ≤ (N : Int)) = true := decide_eq_true (by omega)
                      clear hy
                      go_wp2
                      go_ret2
                      exact ⟨ret_fb K2.out.symm K1.out.symm, rfl⟩
                    · have e2 : decide (9007199254740992 ≤ (N : Int)) = false := decide_eq_false (by omega)
                      clear hy
                      go_wp2
                      go_ret2
                      exact ⟨ret_fb K2.out.symm K1.out.symm, rfl⟩
                · have e3 : decide (-1074 < F) = true := decide_eq_true (by omega)
                  have e4 : decide (F < -1074) = false := decide_eq_false (by omega)
                  have e5 : decide (971 < F) = true := decide_eq_true hn
                  have e1 : decide ((N : Int) < 4503599627370496) = false := decide_eq_false (by omega)
                  clear hn hc
                  by_cases hy : 9007199254740992 ≤ N
                  · have e2 : decide (9007199254740992 ≤ (N : Int)) = true := decide_eq_true (by omega)
                    clear hy
                    go_wp2
                    go_ret2
                    exact ⟨ret_fb K2.out.symm K1.out.symm, rfl⟩
                  · have e2 : decide (9007199254740992 ≤ (N : Int)) = false := decide_eq_false (by omega)
                    clear hy
                    go_wp2
                    go_ret2
                    exact ⟨ret_fb K2.out.symm K1.out.symm, rfl⟩
              · have e2 : decide (9007199254740992 ≤ (N : Int)) = false := decide_eq_false (by omega)
                have e4 : decide (F < -1074) = false := decide_eq_false (by omega)
                have e5 : decide (971 < F) = false := decide_eq_false (by omega)
                by_cases hx : N < 4503599627370496
                · have e1 : decide ((N : Int) < 4503599627370496) = true := decide_eq_true (by omega)
                  have e3 : decide (-1074 < F) = false := decide_eq_false (by omega)
                  have hF : F = -1074 := by omega
                  have hI := INF_eq
                  have hr := make_yes (neg := true) (m := m) (e := e) (r := N) (by omega) (by rw [← KN.out, hF]; have := rm_seg 0 N (.inl rfl) (by omega); simp at this; rw [this])
                  have K1 := Lib.hid hr.1
                  have K2 := Lib.hid hr.2
                  have u1 : (N : Int) ≤ 4503599627370495 := by omega
                  clear hr hx hc hn hF hI
                  go_wp2
                  go_ret2
                  exact ⟨ret_fb (by rw [K2.out, word_eq]; simp; try omega) K1.out.symm, rfl⟩
                · have e1 : decide ((N : Int) < 4503599627370496) = false := decide_eq_false (by omega)
                  have hI := INF_eq
                  obtain ⟨G, hG⟩ : ∃ G : Nat, (G : Int) = F + 1074 := ⟨(F + 1074).toNat, by omega⟩
                  have hr := make_yes (neg := true) (m := m) (e := e) (r := G * 4503599627370496 + N) (by omega) (by
                    rw [← KN.out, rm_seg G N (.inr (by omega)) (by omega), Rat.natCast_mul, ← pw_nat, Rat.mul_assoc, ← pw_add, show (G : Int) + -1074 = F from by omega])
                  have K1 := Lib.hid hr.1
                  have K2 := Lib.hid hr.2
                  have u1 : (N : Int) ≤ 9007199254740991 := by omega
                  have u2 : 4503599627370496 ≤ (N : Int) := by omega
                  have u3 : -1074 ≤ F ∧ F ≤ 971 := by omega
                  have KG := Lib.hid hG
                  clear hr hx hc hn hI hG
                  go_wp2
                  go_ret2
                  exact ⟨ret_fb (by rw [K2.out, word_eq]; have := KG.out; simp; try omega) K1.out.symm, rfl⟩
    · have d1 : ((M : Int) % 2 == 0) = false := by rw [beq_eq_false_iff_ne]; omega
      have hor : M % 2 = 1 ∨ (M < 9007199254740992 ∧ -1074 ≤ E) := .inl (by omega)
      have KO := Lib.hid hor; clear hor
      have KP := Lib.hid c1; clear c1
      go_wp2
      clear d1
      go_loop [1, 2] (fun a x => ∃ (N : Nat) (F : Int), (N : Rat) * pw F = (m : Rat) * pw e ∧ N < 18446744073709551616 ∧ 0 < N ∧ F ≤ E ∧ -2000 ≤ F ∧ (N % 2 = 1 ∨ (N < 9007199254740992 ∧ -1074 ≤ F)) ∧ a = .int .u64 (N : Int) ∧ x = .int .i64 F) (fun _ x => (intOf x + 1074).toNat)
      case atStart => exact ⟨M, E, KV.out, by omega, hM0, Int.le_refl _, by omega, KO.out, rfl, rfl⟩
      case round =>
        obtain ⟨N, F, hN, hN64, hN0, hFE, hFlo, hNO, rfl, rfl⟩ := hrel
        have KN := Lib.hid hN; clear hN
        have KNO := Lib.hid hNO; clear hNO
        have j0 : 1 ≤ (N : Int) := by omega
        have j64 : (N : Int) ≤ 18446744073709551615 := by omega
        have K64 := Lib.hid hN64; clear hN64
        by_cases hc : N < 4503599627370496 ∧ -1074 < F
        · obtain ⟨hc1, hc2⟩ := hc
          have e1 : decide ((N : Int) < 4503599627370496) = true := decide_eq_true (by omega)
          have e2 : decide (-1074 < F) = true := decide_eq_true hc2
          have u1 : (N : Int) ≤ 4503599627370495 := by omega
          have KC1 := Lib.hid hc1; have KC2 := Lib.hid hc2
          clear hc1 hc2
          go_wp2
          go_round
          case rel => exact ⟨2 * N, F - 1, by rw [double_val]; exact KN.out, by have := KC1.out; omega, by omega, by omega, by have := KC2.out; omega, .inr ⟨by have := KC1.out; omega, by have := KC2.out; omega⟩, by first | go_num | (congr 1; omega), by first | rfl | go_num⟩
          case measure => have := KC2.out; simp [intOf]; omega
        · have KC := Lib.hid hc
          by_cases hn : 9007199254740992 ≤ N ∨ F < -1074 ∨ 971 < F
          · have hno := ref_no KNO.out hc hn
            rw [KN.out] at hno
            obtain ⟨q1, q2⟩ := make_no (by have := shift_le KM.out; omega) hno
            have K1 := Lib.hid q1
            have K2 := Lib.hid (q2 true)
            clear hno q1 q2
            rcases hn with hn | hn | hn
            · have e1 : decide ((N : Int) < 4503599627370496) = false := decide_eq_false (by omega)
              have e2 : decide (9007199254740992 ≤ (N : Int)) = true := decide_eq_true (by omega)
              clear hn hc
              go_wp2
              go_ret2
              exact ⟨ret_fb K2.out.symm K1.out.symm, rfl⟩
            · have e3 : decide (-1074 < F) = false := decide_eq_false (by omega)
              have e4 : decide (F < -1074) = true := decide_eq_true hn
              clear hn hc
              by_cases hx : N < 4503599627370496
              · have e1 : decide ((N : Int) < 4503599627370496) = true := decide_eq_true (by omega)
                have e2 : decide (9007199254740992 ≤ (N : Int)) = false := decide_eq_false (by omega)
                clear hx
                go_wp2
                go_ret2
                exact ⟨ret_fb K2.out.symm K1.out.symm, rfl⟩
              · have e1 : decide ((N : Int) < 4503599627370496) = false := decide_eq_false (by omega)
                clear hx
                by_cases hy : 9007199254740992 ≤ N
                · have e2 : decide (9007199254740992 ≤ (N : Int)) = true := decide_eq_true (by omega)
                  clear hy
                  go_wp2
                  go_ret2
                  exact ⟨ret_fb K2.out.symm K1.out.symm, rfl⟩
                · have e2 : decide (9007199254740992 ≤ (N : Int)) = false := decide_eq_false (by omega)
                  clear hy
                  go_wp2
                  go_ret2
                  exact ⟨ret_fb K2.out.symm K1.out.symm, rfl⟩
            · have e3 : decide (-1074 < F) = true := decide_eq_true (by omega)
              have e4 : decide (F < -1074) = false := decide_eq_false (by omega)
              have e5 : decide (971 < F) = true := decide_eq_true hn
              have e1 : decide ((N : Int) < 4503599627370496) = false := decide_eq_false (by omega)
              clear hn hc
              by_cases hy : 9007199254740992 ≤ N
              · have e2 : decide (9007199254740992 ≤ (N : Int)) = true := decide_eq_true (by omega)
                clear hy
                go_wp2
                go_ret2
                exact ⟨ret_fb K2.out.symm K1.out.symm, rfl⟩
              · have e2 : decide (9007199254740992 ≤ (N : Int)) = false := decide_eq_false (by omega)
                clear hy
                go_wp2
                go_ret2
                exact ⟨ret_fb K2.out.symm K1.out.symm, rfl⟩
          · have e2 : decide (9007199254740992 ≤ (N : Int)) = false := decide_eq_false (by omega)
            have e4 : decide (F < -1074) = false := decide_eq_false (by omega)
            have e5 : decide (971 < F) = false := decide_eq_false (by omega)
            by_cases hx : N < 4503599627370496
            · have e1 : decide ((N : Int) < 4503599627370496) = true := decide_eq_true (by omega)
              have e3 : decide (-1074 < F) = false := decide_eq_false (by omega)
              have hF : F = -1074 := by omega
              have hI := INF_eq
              have hr := make_yes (neg := true) (m := m) (e := e) (r := N) (by omega) (by rw [← KN.out, hF]; have := rm_seg 0 N (.inl rfl) (by omega); simp at this; rw [this])
              have K1 := Lib.hid hr.1
              have K2 := Lib.hid hr.2
              have u1 : (N : Int) ≤ 4503599627370495 := by omega
              clear hr hx hc hn hF hI
              go_wp2
              go_ret2
              exact ⟨ret_fb (by rw [K2.out, word_eq]; simp; try omega) K1.out.symm, rfl⟩
            · have e1 : decide ((N : Int) < 4503599627370496) = false := decide_eq_false (by omega)
              have hI := INF_eq
              obtain ⟨G, hG⟩ : ∃ G : Nat, (G : Int) = F + 1074 := ⟨(F + 1074).toNat, by omega⟩
              have hr := make_yes (neg := true) (m := m) (e := e) (r := G * 4503599627370496 + N) (by omega) (by
                rw [← KN.out, rm_seg G N (.inr (by omega)) (by omega), Rat.natCast_mul, ← pw_nat, Rat.mul_assoc, ← pw_add, show (G : Int) + -1074 = F from by omega])
              have K1 := Lib.hid hr.1
              have K2 := Lib.hid hr.2
              have u1 : (N : Int) ≤ 9007199254740991 := by omega
              have u2 : 4503599627370496 ≤ (N : Int) := by omega
              have u3 : -1074 ≤ F ∧ F ≤ 971 := by omega
              have KG := Lib.hid hG
              clear hr hx hc hn hI hG
              go_wp2
              go_ret2
              exact ⟨ret_fb (by rw [K2.out, word_eq]; have := KG.out; simp; try omega) K1.out.symm, rfl⟩

end Go.Proofs.Ytigacobphgeeaaa

/- Contracts of the document's answers for layer 1: Make, Pow, Scale, Top, In, Same. -/
namespace Go.Proofs.Ytigacobphgeeaaa
open Go.RowKit Lev

attribute [local go_sem] run_fbits run_frombits order_lt order_gt order_eq order_ne flt_or_feq flt_or_feq' p_400 p400

set_option maxHeartbeats 400000 in
theorem rmake_zero (neg : Bool) (e : Int) (w : World) :
    Calls Try.prog 86 #[.bool neg, .int .u64 0, .int .i64 e] w fun en w' => en = .returned (.tuple #[.float .f64 (D.word neg 0), .bool true]) ∧ w = w' := by
  cases neg
  · go_enter Try.func86, Try.ntmps86
    go_wp2
    go_ret2
    exact ⟨rfl, rfl⟩
  · go_enter Try.func86, Try.ntmps86
    go_wp2
    go_ret2
    exact ⟨ret_fb (by decide) rfl, rfl⟩
set_option maxHeartbeats 400000 in
theorem rmake_far (neg : Bool) (m : Nat) (e : Int) (h0 : ((m : Int) == 0) = false) (h : e < -2000 ∨ 2000 < e) (w : World) :
    Calls Try.prog 86 #[.bool neg, .int .u64 (m : Int), .int .i64 e] w fun en w' => en = .returned (.tuple #[.float .f64 0, .bool false]) ∧ w = w' := by
  rcases h with h | h
  · cases neg
    all_goals
      go_enter Try.func86, Try.ntmps86
      go_wp2
      go_ret2
      exact ⟨rfl, rfl⟩
  · have h2 : ¬ e < -2000 := by omega
    cases neg
    all_goals
      go_enter Try.func86, Try.ntmps86
      go_wp2
      go_ret2
      exact ⟨rfl, rfl⟩

theorem rmake_any (neg : Bool) (m : Nat) (e : Int) (hm : m < 18446744073709551616) (w : World) :
    Calls Try.prog 86 #[.bool neg, .int .u64 (m : Int), .int .i64 e] w fun en w' => en = .returned (.tuple #[.float .f64 (makeF neg m e), .bool (makeB m e)]) ∧ w = w' := by
  by_cases h0 : m = 0
  · subst h0
    have e1 : makeF neg 0 e = D.word neg 0 := by unfold makeF; rw [if_pos rfl]
    have e2 : makeB 0 e = true := by unfold makeB; simp
    rw [e1, e2]
    exact rmake_zero neg e w
  · have hne : ((m : Int) == 0) = false := by rw [beq_eq_false_iff_ne]; omega
    by_cases h1 : e < -2000
    · obtain ⟨q1, q2⟩ := make_no h0 (rep_no_far (e := e) h0 hm (by omega))
      rw [q1, q2 neg]; exact rmake_far neg m e hne (.inl h1) w
    · by_cases h2 : 2000 < e
      · obtain ⟨q1, q2⟩ := make_no h0 (rep_no_far (e := e) h0 hm (by omega))
        rw [q1, q2 neg]; exact rmake_far neg m e hne (.inr h2) w
      · cases neg
        · exact rmake_pos m e hm (by omega) hne h1 h2 w
        · exact rmake_neg m e hm (by omega) hne h1 h2 w

theorem one_far {k : Int} (h : k < -1074 ∨ 1023 < k) : makeF false 1 k = 0 ∧ makeB 1 k = false := by
  have hno : ¬ rep (((1 : Nat) : Rat) * pw k) := by
    rcases h with h | h
    · exact rep_no_odd (by decide) (.inl h)
    · refine rep_no_big ?_
      rw [show ((1 : Nat) : Rat) = 1 from rfl, Rat.one_mul]
      exact pw_le (by omega)
  obtain ⟨q1, q2⟩ := make_no (by decide) hno
  exact ⟨q2 false, q1⟩

set_option maxHeartbeats 400000 in
theorem rpow_any (k : Int) (w : World) :
    Calls Try.prog 63 #[.int .i64 k] w fun e w' => e = .returned (.float .f64 (makeF false 1 k)) ∧ w = w' := by
  by_cases h1 : k < -1074
  · rw [(one_far (.inl h1)).1]
    go_enter Try.func63, Try.ntmps63
    go_wp2
    go_ret
    exact ⟨rfl, rfl⟩
  · by_cases h2 : 1023 < k
    · rw [(one_far (.inr h2)).1]
      go_enter Try.func63, Try.ntmps63
      go_wp2
      go_ret
      exact ⟨rfl, rfl⟩
    · have H := Lib.hid (fun w => rmake_any false 1 k (by decide) w)
      go_enter Try.func63, Try.ntmps63
      go_wp2_with (go_at_call 86; refine (H.out _).mono ?_; rintro e w' ⟨rfl, rfl⟩)
      go_ret
      exact ⟨rfl, rfl⟩

theorem sameS_kind (a b : Nat) : ((kindS a == 3) && (kindS b == 3) || ((a : Int) == (b : Int))) = sameS a b := by
  have e : ∀ x : Nat, (kindS x == 3) = decide (INF < rg x) := fun x => by
    rw [Bool.eq_iff_iff, beq_iff_eq, decide_eq_true_eq]
    unfold kindS; repeat' split
    all_goals omega
  have e2 : ∀ x : Nat, (!feq x x) = decide (INF < rg x) := fun x => by unfold feq; rw [← decide_not, decide_eq_decide]; omega
  rw [sameS_eq, e, e, e2, e2]

set_option maxHeartbeats 400000 in
theorem rsame_any (a b : Nat) (ha : a < 18446744073709551616) (hb : b < 18446744073709551616) (w : World) :
    Calls Try.prog 17 #[.float .f64 a, .float .f64 b] w fun e w' => e = .returned (.bool (sameS a b)) ∧ w = w' := by
  have K := Lib.hid (sameS_kind a b)
  have H := Lib.hid (fun x hx => rsplit_any x hx)
  unfold splitV at H
  go_enter Try.func17, Try.ntmps17
  go_wp2_with fail
  refine (H.out a ha _).mono ?_
  rintro e w' ⟨rfl, rfl⟩
  go_wp2_with fail
  refine (H.out b hb _).mono ?_
  rintro e w' ⟨rfl, rfl⟩
  cases h1 : (kindS a == 3)
  · go_wp2
    go_ret
    exact ⟨ret_bool (by rw [← K.out, h1]; simp), rfl⟩
  · cases h2 : (kindS b == 3)
    · go_wp2
      go_ret
      exact ⟨ret_bool (by rw [← K.out, h1, h2]; simp), rfl⟩
    · go_wp2
      go_ret
      exact ⟨ret_bool (by rw [← K.out, h1, h2]; simp), rfl⟩

end Go.Proofs.Ytigacobphgeeaaa

/- Contracts of the document's Top and In. -/
namespace Go.Proofs.Ytigacobphgeeaaa
open Go.RowKit Lev

attribute [local go_sem] run_fbits run_frombits order_lt order_gt order_eq order_ne flt_or_feq flt_or_feq' p_400 p400

theorem top_ends {M j : Nat} (h1 : 1 ≤ M / 2 ^ j) (h2 : M / 2 ^ j ≤ 1) : M.log2 = j := by
  have hp := Nat.two_pow_pos j
  have hdm := Nat.div_add_mod M (2 ^ j)
  have hml := Nat.mod_lt M hp
  have e : M / 2 ^ j = 1 := by omega
  rw [e, Nat.mul_one] at hdm
  exact log2_eq (by omega) (by rw [Nat.pow_succ]; omega)

set_option maxHeartbeats 400000 in
theorem rtop_any (b : Nat) (hb : b < 18446744073709551616) (w : World) :
    Calls Try.prog 80 #[.float .f64 b] w fun e w' => e = .returned (.int .i64 (topB b)) ∧ w = w' := by
  rcases kind_cases b with h | ⟨h, hf, h0⟩ | h | h
  case inr.inl =>
    have e1 : topB b = (mantS b).log2 + expS b := by unfold topB topS; rw [if_pos h]
    have H := Lib.hid (rsplit_any b hb w); rw [splitV_1 h] at H
    have hlo := expS_ge b
    have hhi := expS_hi hf
    have hm := mantS_pos h0
    have hml := mantS_lt b
    have hM : 1 ≤ mantS b := hm
    have hl := lg_le h0
    rw [e1]
    clear h e1 h0 hf
    obtain ⟨M, hMe⟩ : ∃ M, M = mantS b := ⟨_, rfl⟩
    rw [← hMe] at hm hml hl hM H ⊢
    clear hMe
    go_enter Try.func80, Try.ntmps80
    go_wp2_with (go_at_call 42; refine H.out.mono ?_; rintro e w' ⟨rfl, rfl⟩)
    go_loop [4, 5] (fun m e => ∃ j N : Nat, N = M / 2 ^ j ∧ 1 ≤ N ∧ N ≤ 9007199254740992 ∧ j ≤ M.log2 ∧ m = .int .u64 (N : Int) ∧ e = .int .i64 (expS b + (j : Int))) (fun m _ => (intOf m).toNat)
    case atStart => exact ⟨0, M, by simp, hm, by omega, by omega, rfl, by simp⟩
    case round =>
      obtain ⟨j, N, hN, hN1, hN2, hj, rfl, rfl⟩ := hrel
      have KN := Lib.hid hN; clear hN
      have KM := Lib.hid hM
      by_cases hlt : 1 < (N : Int)
      · go_wp2
        go_round
        case rel =>
          have h3 : N / 2 = M / 2 ^ (j + 1) := by rw [KN.out, Nat.pow_succ, Nat.div_div_eq_div_mul]
          refine ⟨j + 1, N / 2, h3, by omega, by omega, ?_, by simp, by go_num⟩
          rcases Nat.lt_or_ge M.log2 (j + 1) with h4 | h4
          · exfalso
            have h5 : M < 2 ^ (M.log2 + 1) := Nat.lt_log2_self
            have h6 := Nat.pow_le_pow_right (n := 2) (by decide) (show M.log2 + 1 ≤ j + 1 by omega)
            have h7 : M / 2 ^ (j + 1) = 0 := Nat.div_eq_of_lt (by omega)
            omega
          · exact h4
        case measure => simp [intOf]; omega
      · have KE := Lib.hid (top_ends (M := M) (j := j) (by rw [← KN.out]; omega) (by rw [← KN.out]; omega))
        go_wp2
        go_ret
        exact ⟨ret_int (by rw [KE.out]; omega), rfl⟩
  all_goals
    have e1 : topB b = -2000 := by unfold topB; rw [if_neg (by omega)]
    have H := Lib.hid (rsplit_any b hb w); first | rw [splitV_0 h] at H | rw [splitV_2 h] at H | rw [splitV_3 h] at H
    rw [e1]
    clear h e1
    go_enter Try.func80, Try.ntmps80
    go_wp2_with (go_at_call 42; refine H.out.mono ?_; rintro e w' ⟨rfl, rfl⟩)
    go_ret
    exact ⟨rfl, rfl⟩

end Go.Proofs.Ytigacobphgeeaaa
