/- Contracts of givens: scale, size. -/
import Derived.Test.YtcoaachajdomcaaHe
namespace Go.Proofs.Ytcoaachajdomcaa
open Go.RowKit Go.Shelf Lev

attribute [local go_sem] order_lt order_gt order_eq order_ne flt_or_feq flt_or_feq' eqFloat run_store_float

set_option maxRecDepth 100000 in
set_option maxHeartbeats 1000000 in
theorem gscale_any (x y a b : Nat) (k : Int) (h1 : D.mul x (makeF false 1 k) = some a) (h2 : D.mul y (makeF false 1 k) = some b) (w : World) :
    Calls Try.prog 47 #[.agg #[.float .f64 x, .float .f64 y], .int .i64 k] w fun e w' => e = .returned (.agg #[.float .f64 a, .float .f64 b]) ∧ Below w.heap.size w w' := by
  have g1 : floatBits .mul .f64 x (makeF false 1 k) = some a := h1
  have g2 : floatBits .mul .f64 y (makeF false 1 k) = some b := h2
  have r1 := fun (w : World) => run_float_arith (P := Try.prog) w .mul 22 .f64 _ _ _ g1
  have r2 := fun (w : World) => run_float_arith (P := Try.prog) w .mul 22 .f64 _ _ _ g2
  have HP := Lib.hid (fun W => pow_any k W)
  clear h1 h2 g1 g2
  generalize makeF false 1 k = p at *
  go_enter Try.func47, Try.ntmps47
  go_wp2_with (go_at_call 33; refine (HP.out _).mono ?_; rintro e w' ⟨rfl, rfl⟩)
  refine bodyPost_ret (v := .agg #[.float .f64 a, .float .f64 b]) (by simp [results, Try.results47, go_sem]) rfl ⟨rfl, ?_⟩
  exact ((Below.refl _ _).alloc (Nat.le_refl _) _).alloc (by simp) _

set_option maxRecDepth 100000 in
set_option maxHeartbeats 1000000 in
theorem gsize_any (x y a b s h : Nat) (h1 : D.mul x x = some a) (h2 : D.mul y y = some b) (h3 : D.add a b = some s) (h4 : D.sqrt s = some h) (w : World) :
    Calls Try.prog 48 #[.agg #[.float .f64 x, .float .f64 y]] w fun e w' => e = .returned (.float .f64 h) ∧ Below w.heap.size w w' := by
  have g1 : floatBits .mul .f64 x x = some a := h1
  have g2 : floatBits .mul .f64 y y = some b := h2
  have g3 : floatBits .add .f64 a b = some s := h3
  have r1 := fun (w : World) => run_float_arith (P := Try.prog) w .mul 22 .f64 _ _ _ g1
  have r2 := fun (w : World) => run_float_arith (P := Try.prog) w .mul 22 .f64 _ _ _ g2
  have r3 := fun (w : World) => run_float_arith (P := Try.prog) w .add 22 .f64 _ _ _ g3
  have HS := Lib.hid (fun W => sqrt_any _ _ h4 W)
  clear h1 h2 h3 h4 g1 g2 g3
  go_enter Try.func48, Try.ntmps48
  go_wp2_with (go_at_call 40; refine (HS.out _).mono ?_; rintro e w' ⟨rfl, rfl⟩)
  go_ret
  exact ⟨rfl, ((Below.refl _ _).alloc (Nat.le_refl _) _).alloc (by simp) _⟩

end Go.Proofs.Ytcoaachajdomcaa
