/- Contracts of package math's functions on floats that the program uses. -/
import Derived.Test.YtkhnoffhbfcgfaaProg
import Derived.Handy
import Derived.WalkSpells
import Derived.WalkLawsBesides
import Derived.IntWalk
import Derived.Lib.Hide
import Derived.Outline
import Derived.Test.YtkhnoffhbfcgfaaF
namespace Go.Proofs.Ytkhnoffhbfcgfaa
open Go.RowKit Lev

theorem run_fbits (b : Nat) (w : World) : (callFunc 37 #[.float .f64 b]).run Try.prog w = .ok (.value (.int .u64 b)) w := by
  rw [run_callFunc_extern Try.func37 (by kernel_rfl) (by kernel_rfl) (by kernel_rfl) (e := Extern.MathFloatBits.float64bits) (by kernel_rfl)]
  rfl
theorem run_frombits (n : Int) (w : World) : (callFunc 63 #[.int .u64 n]).run Try.prog w = .ok (.value (.float .f64 n.toNat)) w := by
  rw [run_callFunc_extern Try.func63 (by kernel_rfl) (by kernel_rfl) (by kernel_rfl) (e := Extern.MathFloatBits.float64frombits) (by kernel_rfl)]
  rfl
attribute [local go_sem] run_fbits run_frombits order_lt order_gt order_eq order_ne flt_or_feq flt_or_feq'

theorem wrap_sign {b : Nat} (hb : b < 18446744073709551616) : decide (wrap64 (b : Int) < 0) = sg b := by
  rw [sg_lt hb, decide_eq_decide]; unfold wrap64; omega

set_option maxHeartbeats 400000 in
theorem signbit_any (b : Nat) (hb : b < 18446744073709551616) (w : World) :
    Calls Try.prog 57 #[.float .f64 b] w fun e w' => e = .returned (.bool (sg b)) ∧ w = w' := by
  rw [← wrap_sign hb]
  go_enter Try.func57, Try.ntmps57
  go_wp2
  go_ret
  exact ⟨rfl, rfl⟩

set_option maxHeartbeats 400000 in
theorem abs_any (b : Nat) (hb : b < 18446744073709551616) (w : World) :
    Calls Try.prog 41 #[.float .f64 b] w fun e w' => e = .returned (.float .f64 (rg b)) ∧ w = w' := by
  have h := bits_abs hb
  go_enter Try.func41, Try.ntmps41
  go_wp2
  go_ret
  exact ⟨rfl, rfl⟩

theorem ret_float {a b : Nat} (h : a = b) : Ending.returned (.float .f64 a) = Ending.returned (.float .f64 b) := by rw [h]
theorem ret_bool {a b : Bool} (h : a = b) : Ending.returned (.bool a) = Ending.returned (.bool b) := by rw [h]
theorem ret_int {k : IntKind} {a b : Int} (h : a = b) : Ending.returned (.int k a) = Ending.returned (.int k b) := by rw [h]

set_option maxHeartbeats 400000 in
theorem isNaN_any (b : Nat) (w : World) :
    Calls Try.prog 39 #[.float .f64 b] w fun e w' => e = .returned (.bool (decide (INF < rg b))) ∧ w = w' := by
  have h : (!feq b b) = decide (INF < rg b) := by
    unfold feq; rw [← decide_not, decide_eq_decide]; omega
  have H := Lib.hid h; clear h
  go_enter Try.func39, Try.ntmps39
  go_wp2
  go_ret
  exact ⟨ret_bool H.out, rfl⟩

theorem flt_max (b : Nat) : flt 9218868437227405311 (rg b) = decide (rg b = INF) := by
  have h1 : ord 9218868437227405311 = 9218868437227405311 := by decide
  have h2 : rg 9218868437227405311 = 9218868437227405311 := by decide
  unfold flt
  rw [ord_rg, h1, h2, rg_rg, decide_eq_decide, INF_eq]; omega

set_option maxHeartbeats 400000 in
theorem isInf_any (b : Nat) (hb : b < 18446744073709551616) (w : World) :
    Calls Try.prog 19 #[.float .f64 b, .int .i64 0] w fun e w' => e = .returned (.bool (decide (rg b = INF))) ∧ w = w' := by
  rw [← flt_max]
  go_enter Try.func19, Try.ntmps19
  go_wp2_with (go_at_call 41; refine (abs_any _ hb _).mono ?_; rintro e w' ⟨rfl, rfl⟩)
  go_ret
  exact ⟨rfl, rfl⟩

/-- A sign's bit. -/
def sbit (s : Bool) : Nat := s.toNat * 9223372036854775808

set_option maxHeartbeats 400000 in
theorem copysign_any (f s : Nat) (hf : f < 18446744073709551616) (hs : s < 18446744073709551616) (w : World) :
    Calls Try.prog 81 #[.float .f64 f, .float .f64 s] w fun e w' => e = .returned (.float .f64 (D.word (sg s) (rg f))) ∧ w = w' := by
  have h1 := bits_abs hf
  have h2 : bits .and .u64 (s : Int) 9223372036854775808 = (sbit (sg s) : Nat) := bits_sign hs
  have h3 : bits .or .u64 (rg f : Int) (sbit (sg s) : Nat) = (D.word (sg s) (rg f) : Int) := bits_copysign (sg s) (rg f) (rg_lt f)
  go_enter Try.func81, Try.ntmps81
  go_wp2
  go_ret
  exact ⟨rfl, rfl⟩

theorem feq_abs (b : Nat) : flt (rg b) 4503599627370496 = decide (rg b < 4503599627370496) := by
  have h1 : ord 4503599627370496 = 4503599627370496 := by decide
  have h2 : rg 4503599627370496 = 4503599627370496 := by decide
  unfold flt
  rw [ord_rg, h1, h2, rg_rg, decide_eq_decide, INF_eq]; omega

set_option maxHeartbeats 400000 in
theorem normalize_any (b : Nat) (hb : b < 18446744073709551616) (h0 : rg b ≠ 0) (w : World) :
    Calls Try.prog 84 #[.float .f64 b] w fun e w' => e = .returned (.tuple #[.float .f64 (nrm b), .int .i64 (nexp b)]) ∧ w = w' := by
  have hc := feq_abs b
  by_cases h : rg b < 4503599627370496
  · have hm : floatBits .mul .f64 b 4841369599423283200 = some (nrm b) := mul_norm h0 h
    have hrun := fun (w : World) => run_float_arith (P := Try.prog) w .mul 26 .f64 _ _ _ hm
    have he : nexp b = -52 := by unfold nexp; rw [if_pos h]
    rw [decide_eq_true h] at hc
    rw [he]
    clear hm he
    go_enter Try.func84, Try.ntmps84
    go_wp2_with (go_at_call 41; refine (abs_any _ hb _).mono ?_; rintro e w' ⟨rfl, rfl⟩)
    go_ret2
    exact ⟨rfl, rfl⟩
  · have he : nexp b = 0 := by unfold nexp; rw [if_neg h]
    have hn : nrm b = b := by unfold nrm; rw [if_neg h]
    rw [decide_eq_false h] at hc
    rw [he, hn]
    clear he hn
    go_enter Try.func84, Try.ntmps84
    go_wp2_with (go_at_call 41; refine (abs_any _ hb _).mono ?_; rintro e w' ⟨rfl, rfl⟩)
    go_ret2
    exact ⟨rfl, rfl⟩

end Go.Proofs.Ytkhnoffhbfcgfaa
