/- live of layer 17. -/
import Derived.Test.YtigacobphgeeaaaVi9
import Derived.Test.YtigacobphgeeaaaVh9
namespace Lev
def f17 : Fct := ⟨2, [4611686018427387904, 4607182418800017408, 4617315517961601024, 4616189618054758400, 4620693217682128896, 4613937818241073152], 4, 0⟩
def g17 : Fct := ⟨1, [4607182418800017408, 4607182418800017408, 4607182418800017408], 1, 0⟩
theorem vw1 : stE f17 = 0 := by decide +kernel
theorem vw2 : stRest f17 = 4621256167635550208 := by decide +kernel
theorem vw3 : stTot f17 = 4636596553866280960 := by decide +kernel
theorem vw4 : stVar f17 = 4616752568008179712 := by decide +kernel
theorem vw5 : stFit f17 = 4606355227031724868 := by decide +kernel
theorem vw6 : spV f17 = 4611959207554411737 := by decide +kernel
theorem vw7 : stE g17 = 5 := by decide +kernel
theorem vwV : stV f17 = .agg #[.int .i64 2, .float .f64 4621256167635550208, .float .f64 4636596553866280960, .float .f64 4616752568008179712, .float .f64 4606355227031724868] := by
  rw [stV_ok vw1, vw2, vw3, vw4, vw5]; rfl
theorem vwW : stV g17 = .agg #[.int .i64 0, .float .f64 0, .float .f64 0, .float .f64 0, .float .f64 0] := stV_bad (by rw [vw7]; decide)
theorem vm1 : msE f17 [4609434218613702656, 4611686018427387904] = 0 := by decide +kernel
theorem vm2 : msV f17 [4609434218613702656, 4611686018427387904] = 4621256167635550208 := by decide +kernel
theorem vm3 : msE f17 [0, 4611686018427387904] = 0 := by decide +kernel
theorem vm4 : msV f17 [0, 4611686018427387904] = 4625759767262920704 := by decide +kernel
theorem vm5 : msE f17 [] = 1 := by decide +kernel
theorem vm6 : msV f17 [] = 0 := by decide +kernel
theorem vc1 : feq 4621256167635550208 4621256167635550208 = true := by decide
theorem vc2 : feq 4636596553866280960 4636596553866280960 = true := by decide
theorem vc3 : feq 4616752568008179712 4616752568008179712 = true := by decide
theorem vc4 : flt 4606281698874543309 4606355227031724868 = true := by decide
theorem vc5 : flt 4606355227031724868 4606371770867090719 = true := by decide
theorem vc6 : flt 4611956234405030134 4611959207554411737 = true := by decide
theorem vc7 : flt 4611959207554411737 4611978752403166986 = true := by decide
theorem vc8 : feq 4625759767262920704 4625759767262920704 = true := by decide
end Lev
namespace Go.Proofs.Ytigacobphgeeaaa
open Go.RowKit Go.Shelf Lev

attribute [local go_sem] run_store_float order_lt order_gt order_eq order_ne flt_or_feq flt_or_feq' vc1 vc2 vc3 vc4 vc5 vc6 vc7 vc8

theorem slLit17 {W : World} {g : Nat} {t : TypeId} {xs : List Nat} (h : Bk W g t (xs.map (Value.float .f64)).toArray) (hx : ∀ x ∈ xs, x < 18446744073709551616) (hl : xs.length ≤ 9223372036854775807) : SlArg W (some ⟨g, 0, none⟩) xs xs.length := by
  refine ⟨⟨hx, fun _ => ⟨g, 0, rfl, h.lt, fun j hj => ?_⟩⟩, Nat.le_refl _, hl⟩
  rw [Nat.zero_add, h.cell]
  simp [hj]

theorem v_of (c : Nat) (A : Option Addr) (w : World) (hx : SlArg w A f17.xs c) : Calls Try.prog 75 #[.agg #[.int .i64 2, .slice A 6 c, .int .i64 4, .int .i64 0]] w fun e w' => e = .returned (.tuple #[.agg #[.int .i64 2, .float .f64 4621256167635550208, .float .f64 4636596553866280960, .float .f64 4616752568008179712, .float .f64 4606355227031724868], .int .i64 0]) ∧ Below w.heap.size w w' := by
  have h := sof_any f17 A c w hx
  rw [vwV, vw1] at h
  exact h
theorem v_of2 (c : Nat) (A : Option Addr) (w : World) (hx : SlArg w A g17.xs c) : Calls Try.prog 75 #[.agg #[.int .i64 1, .slice A 3 c, .int .i64 1, .int .i64 0]] w fun e w' => e = .returned (.tuple #[.agg #[.int .i64 0, .float .f64 0, .float .f64 0, .float .f64 0, .float .f64 0], .int .i64 5]) ∧ Below w.heap.size w w' := by
  have h := sof_any g17 A c w hx
  rw [vwW, vw7] at h
  exact h
theorem v_sp (c : Nat) (A : Option Addr) (w : World) (hx : SlArg w A f17.xs c) : Calls Try.prog 44 #[.agg #[.int .i64 2, .slice A 6 c, .int .i64 4, .int .i64 0]] w fun e w' => e = .returned (.tuple #[.float .f64 4611959207554411737, .int .i64 0]) ∧ Below w.heap.size w w' := by
  have h := sspread_any f17 A c w hx
  rw [vw6, vw1] at h
  exact h
end Go.Proofs.Ytigacobphgeeaaa
