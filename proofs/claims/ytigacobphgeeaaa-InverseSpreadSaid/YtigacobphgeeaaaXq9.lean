/- live of layer 18. -/
import Derived.Test.YtigacobphgeeaaaXp9
import Derived.Test.YtigacobphgeeaaaVj9
set_option linter.unusedVariables false
namespace Lev
def h18 : Fct := ⟨1, [0, 4607182418800017408, 4607182418800017408], 0, 0⟩
theorem xw1 : rowsS f17 = [4602678819172646912, 13817043656772681728, 4598175219545276416] := by decide +kernel
theorem xw2 : invE f17 = 0 := by decide +kernel
theorem xw3 : condV f17 = 4612811918334230528 := by decide +kernel
theorem xw4 : condE f17 = 0 := by decide +kernel
theorem xw5 : oneV f17 = 4617315517961601024 := by decide +kernel
theorem xw6 : oneE f17 = 0 := by decide +kernel
theorem xw7 : errL f17 = [4607602620319054521, 4602952008299670745] := by decide +kernel
theorem xw8 : errE f17 = 0 := by decide +kernel
theorem xw9 : invE h18 = 7 := by decide +kernel
theorem xw10 : errE h18 = 5 := by decide +kernel
theorem xc1 : feq 4602678819172646912 4602678819172646912 = true := by decide
theorem xc2 : feq 13817043656772681728 13817043656772681728 = true := by decide
theorem xc3 : feq 4598175219545276416 4598175219545276416 = true := by decide
theorem xc4 : feq 4617315517961601024 4617315517961601024 = true := by decide
theorem xc5 : feq 4612811918334230528 4612811918334230528 = true := by decide
theorem xc6 : flt 4602949035150289142 4602952008299670745 = true := by decide
theorem xc7 : flt 4602952008299670745 4603039107142836552 = true := by decide
end Lev
namespace Go.Proofs.Ytigacobphgeeaaa
open Go.RowKit Go.Shelf Lev

attribute [local go_sem] run_store_float order_lt order_gt order_eq order_ne xc1 xc2 xc3 xc4 xc5 xc6 xc7

theorem x_rows (c : Nat) (A : Option Addr) (w : World) (hx : SlArg w A f17.xs c) : Calls Try.prog 10 #[.agg #[.int .i64 2, .slice A 6 c, .int .i64 4, .int .i64 0]] w fun e w' => (∃ B d, e = .returned (.tuple #[.slice B 3 d, .int .i64 0]) ∧ SlArg w' B [4602678819172646912, 13817043656772681728, 4598175219545276416] d) ∧ Below w.heap.size w w' := by
  have h := Rows_any f17 A c w hx
  rw [xw1, xw2] at h
  refine h.mono ?_
  rintro e w' ⟨⟨v, rfl, B, d, rfl, hs, _⟩, hb⟩
  exact ⟨⟨B, d, rfl, hs⟩, hb⟩
theorem x_one (c : Nat) (A : Option Addr) (w : World) (hx : SlArg w A f17.xs c) : Calls Try.prog 12 #[.agg #[.int .i64 2, .slice A 6 c, .int .i64 4, .int .i64 0]] w fun e w' => e = .returned (.tuple #[.float .f64 4617315517961601024, .int .i64 0]) ∧ Below w.heap.size w w' := by
  have h := One_any f17 A c w hx
  rw [xw5, xw6] at h
  exact h
theorem x_cond (c : Nat) (A : Option Addr) (w : World) (hx : SlArg w A f17.xs c) : Calls Try.prog 14 #[.agg #[.int .i64 2, .slice A 6 c, .int .i64 4, .int .i64 0]] w fun e w' => e = .returned (.tuple #[.float .f64 4612811918334230528, .int .i64 0]) ∧ Below w.heap.size w w' := by
  have h := Cond_any f17 A c w hx
  rw [xw3, xw4] at h
  exact h
theorem x_err (c : Nat) (A : Option Addr) (w : World) (hx : SlArg w A f17.xs c) : Calls Try.prog 18 #[.agg #[.int .i64 2, .slice A 6 c, .int .i64 4, .int .i64 0]] w fun e w' => (∃ B d, e = .returned (.tuple #[.slice B 2 d, .int .i64 0]) ∧ SlArg w' B [4607602620319054521, 4602952008299670745] d) ∧ Below w.heap.size w w' := by
  have h := Errors_any f17 A c w hx
  rw [xw7, xw8] at h
  refine h.mono ?_
  rintro e w' ⟨⟨v, rfl, B, d, rfl, hs, _⟩, hb⟩
  exact ⟨⟨B, d, rfl, hs⟩, hb⟩
theorem x_rows2 (c : Nat) (A : Option Addr) (w : World) (hx : SlArg w A h18.xs c) : Calls Try.prog 10 #[.agg #[.int .i64 1, .slice A 3 c, .int .i64 0, .int .i64 0]] w fun e w' => (∃ v, e = .returned (.tuple #[v, .int .i64 7])) ∧ Below w.heap.size w w' := by
  have h := Rows_any h18 A c w hx
  rw [xw9] at h
  refine h.mono ?_
  rintro e w' ⟨⟨v, rfl, _⟩, hb⟩
  exact ⟨⟨v, rfl⟩, hb⟩
theorem x_err2 (c : Nat) (A : Option Addr) (w : World) (hx : SlArg w A h18.xs c) : Calls Try.prog 18 #[.agg #[.int .i64 1, .slice A 3 c, .int .i64 0, .int .i64 0]] w fun e w' => (∃ v, e = .returned (.tuple #[v, .int .i64 5])) ∧ Below w.heap.size w w' := by
  have h := Errors_any h18 A c w hx
  rw [xw10] at h
  refine h.mono ?_
  rintro e w' ⟨⟨v, rfl, _⟩, hb⟩
  exact ⟨⟨v, rfl⟩, hb⟩

set_option maxRecDepth 100000 in
set_option maxHeartbeats 4000000 in
theorem live18 (w : World) : Calls Try.prog 9 #[] w fun e w' => e = .returned (.bool true) ∧ Below w.heap.size w w' := by
  have k := ((Keep.start w).alloc #[.float .f64 4611686018427387904, .float .f64 4607182418800017408, .float .f64 4617315517961601024, .float .f64 4616189618054758400, .float .f64 4620693217682128896, .float .f64 4613937818241073152] 29).alloc #[.int .i64 2, .slice (some ⟨w.heap.size, 0, none⟩) 6 6, .int .i64 4, .int .i64 0] 24
  rw [World.size_alloc] at k
  have K0 := Lib.hid (k.more (slLit17 (xs := f17.xs) (k.box (.tail _ (.head _))) (by decide) (by decide)))
  clear k
  go_enter Try.func9, Try.ntmps9
  go_wp2_with fail
  refine (x_rows _ _ _ (K0.out.arg (.head _))).mono ?_
  rintro e w1 ⟨⟨B, d, rfl, hs⟩, hb⟩
  have K1 := Lib.hid ((K0.out.call hb).more hs)
  obtain ⟨a0, a1, a2, a3⟩ := ((K0.out.call hb).box (.head _)).c4
  clear hb hs
  go_wp2_with fail
  clear a0 a1 a2 a3
  refine (x_one _ _ _ (K1.out.arg (.tail _ (.head _)))).mono ?_
  rintro e w2 ⟨rfl, hb⟩
  have K2 := Lib.hid (K1.out.call hb)
  obtain ⟨a0, a1, a2, a3⟩ := ((K1.out.call hb).box (.head _)).c4
  clear hb
  go_wp2_with fail
  clear a0 a1 a2 a3
  refine (x_cond _ _ _ (K2.out.arg (.tail _ (.head _)))).mono ?_
  rintro e w3 ⟨rfl, hb⟩
  have K3 := Lib.hid (K2.out.call hb)
  obtain ⟨a0, a1, a2, a3⟩ := ((K2.out.call hb).box (.head _)).c4
  clear hb
  go_wp2_with fail
  clear a0 a1 a2 a3
  refine (x_err _ _ _ (K3.out.arg (.tail _ (.head _)))).mono ?_
  rintro e w4 ⟨⟨B4, d4, rfl, hs⟩, hb⟩
  have k5 := ((K3.out.call hb).more hs).alloc #[.float .f64 0, .float .f64 4607182418800017408, .float .f64 4607182418800017408] 29
  have K5 := Lib.hid (k5.more (slLit17 (xs := h18.xs) (k5.box (.head _)) (by decide) (by decide)))
  clear hb hs k5
  go_wp2_with fail
  refine (x_rows2 _ _ _ (K5.out.arg (.head _))).mono ?_
  rintro e w5 ⟨⟨v, rfl⟩, hb⟩
  have k6 := (K5.out.call hb).alloc #[.float .f64 0, .float .f64 4607182418800017408, .float .f64 4607182418800017408] 29
  have K6 := Lib.hid (k6.more (slLit17 (xs := h18.xs) (k6.box (.head _)) (by decide) (by decide)))
  clear hb k6
  go_wp2_with fail
  refine (x_err2 _ _ _ (K6.out.arg (.head _))).mono ?_
  rintro e w6 ⟨⟨v2, rfl⟩, hb⟩
  have K7 := Lib.hid (K6.out.call hb)
  obtain ⟨b1, o1, rfl, _, h1⟩ := (K7.out.arg (.tail _ (.tail _ (.tail _ (.head _))))).reads.2 (by decide)
  obtain ⟨b2, o2, rfl, _, h2⟩ := (K7.out.arg (.tail _ (.tail _ (.head _)))).reads.2 (by decide)
  have c0 : w6.cell? ⟨b1, o1, none⟩ = some (.float .f64 4602678819172646912) := h1 0 (by decide)
  have c1 : w6.cell? ⟨b1, o1 + 1, none⟩ = some (.float .f64 13817043656772681728) := h1 1 (by decide)
  have c2 : w6.cell? ⟨b1, o1 + 2, none⟩ = some (.float .f64 4598175219545276416) := h1 2 (by decide)
  have c3 : w6.cell? ⟨b2, o2 + 1, none⟩ = some (.float .f64 4602952008299670745) := h2 1 (by decide)
  clear hb h1 h2
  go_wp2
  go_ret
  exact ⟨rfl, K7.out.below⟩
end Go.Proofs.Ytigacobphgeeaaa
