/- live of layer 6. -/
import Derived.Test.YtcoaachajdomcaaHh
namespace Lev
theorem cn_val {u x : Nat} (h : cn u = x) (hx : x ≠ nanc) : u = x := by
  by_cases hu : INF < rg u
  · rw [cn_nan hu] at h; exact absurd h.symm hx
  · rwa [cn_num hu] at h
theorem g1 : fdiv (rotA 4613937818241073152 4616189618054758400) (rotH 4613937818241073152 4616189618054758400) = 4603579539098121011 := by decide +kernel
theorem g2 : fdiv (rotB 4613937818241073152 4616189618054758400) (rotH 4613937818241073152 4616189618054758400) = 4605380978949069210 := by decide +kernel
theorem g3 : rotR 4613937818241073152 4616189618054758400 = 4617315517961601024 := by decide +kernel
theorem ofT_34 : ofT 4613937818241073152 4616189618054758400 = .tuple #[.float .f64 4603579539098121011, .float .f64 4605380978949069210, .float .f64 4617315517961601024, .bool true] := by
  unfold ofT
  rw [if_pos (by decide), if_neg (by decide), g1, g2, g3, if_pos (by decide)]
theorem ofT_00 : ofT 0 0 = .tuple #[.float .f64 4607182418800017408, .float .f64 0, .float .f64 0, .bool true] := by
  unfold ofT
  rw [if_pos (by decide), if_pos (by decide)]
theorem ofT_inf : ofT 9218868437227405312 4607182418800017408 = .tuple #[.float .f64 0, .float .f64 0, .float .f64 0, .bool false] := by
  unfold ofT
  rw [if_neg (by decide)]
theorem h1 : hypS 4617315517961601024 4613937818241073152 = 4603579539098121011 := by decide +kernel
theorem h2 : hypC 4617315517961601024 4613937818241073152 = 4605380978949069210 := by decide +kernel
theorem hypT_53 : hypT 4617315517961601024 4613937818241073152 = .tuple #[.float .f64 4605380978949069210, .float .f64 4603579539098121011, .bool true] := by
  unfold hypT hypB
  rw [if_pos (by decide), if_neg (by decide), h1, h2, if_pos (by decide)]
theorem h3 : hypS 4613937818241073152 4613937818241073152 = 4607182418800017408 := by decide +kernel
theorem hypT_33 : hypT 4613937818241073152 4613937818241073152 = .tuple #[.float .f64 0, .float .f64 0, .bool false] := by
  unfold hypT hypB
  rw [if_pos (by decide), if_neg (by decide), h3, if_neg (by decide)]
theorem hypT_01 : hypT 0 4607182418800017408 = .tuple #[.float .f64 0, .float .f64 0, .bool false] := by
  unfold hypT hypB
  rw [if_pos (by decide), if_neg (by decide), if_neg (by rw [decide_eq_true_eq]; exact fun h => h.1 (by decide))]
theorem t1 : turnU 0 4607182418800017408 4617315517961601024 4619567317775286272 = 4619567317775286272 := by decide +kernel
theorem t2 : turnV 0 4607182418800017408 4617315517961601024 4619567317775286272 = 13840687554816376832 := by decide +kernel
theorem d1 : downP 4607182418800017408 0 4617315517961601024 4619567317775286272 = 4617315517961601024 := by decide +kernel
theorem d2 : downV 4607182418800017408 0 4617315517961601024 4619567317775286272 = 4619567317775286272 := by decide +kernel
theorem lc1 : feq 4603579539098121011 4603579539098121011 = true := by decide
theorem lc2 : feq 4605380978949069210 4605380978949069210 = true := by decide
theorem lc3 : feq 4617315517961601024 4617315517961601024 = true := by decide
theorem lc4 : feq 4607182418800017408 4607182418800017408 = true := by decide
theorem lc5 : feq 0 0 = true := by decide
theorem lc6 : feq 4619567317775286272 4619567317775286272 = true := by decide
theorem lc7 : feq 13840687554816376832 13840687554816376832 = true := by decide
theorem lc8 : flt 4605290906956521800 4605380978949069210 = true := by decide
theorem lc9 : flt 4605380978949069210 4605471050941616620 = true := by decide
end Lev
namespace Go.Proofs.Ytcoaachajdomcaa
open Go.RowKit Go.Shelf Lev

attribute [local go_sem] order_lt order_gt order_eq order_ne flt_or_feq flt_or_feq' lc1 lc2 lc3 lc4 lc5 lc6 lc7 lc8 lc9 run_frombits

set_option maxHeartbeats 400000 in
theorem minf_any (w : World) : Calls Try.prog 51 #[.int .i64 1] w fun e w' => e = .returned (.float .f64 9218868437227405312) ∧ w = w' := by
  go_enter Try.func51, Try.ntmps51
  go_wp2
  go_ret
  exact ⟨rfl, rfl⟩

theorem lof (f g : Nat) (hf : f < 18446744073709551616) (hg : g < 18446744073709551616) (v : Value) (hv : ofT f g = v) (w : World) :
    Calls Try.prog 22 #[.float .f64 f, .float .f64 g] w fun e w' => e = .returned v ∧ Below w.heap.size w w' := by rw [← hv]; exact gof_any f g hf hg w
theorem lhy (f g : Nat) (hf : f < 18446744073709551616) (hg : g < 18446744073709551616) (v : Value) (hv : hypT f g = v) (w : World) :
    Calls Try.prog 27 #[.float .f64 f, .float .f64 g] w fun e w' => e = .returned v ∧ Below w.heap.size w w' := by rw [← hv]; exact ghyper_any f g hf hg w
theorem lturn (c s x y u v : Nat) (h1 : turnU c s x y = u) (h2 : turnV c s x y = v) (hu : u ≠ nanc) (hv : v ≠ nanc) (w : World) :
    Calls Try.prog 24 #[.float .f64 c, .float .f64 s, .float .f64 x, .float .f64 y] w fun e w' => e = .returned (.tuple #[.float .f64 u, .float .f64 v]) ∧ Below w.heap.size w w' := by
  refine (gturn_any c s x y w).mono ?_
  rintro e w' ⟨⟨a, b, rfl, e1, e2, _, _⟩, hb⟩
  rw [cn_val (e1.trans h1) hu, cn_val (e2.trans h2) hv]
  exact ⟨rfl, hb⟩
theorem ldown (c s x y u v : Nat) (h1 : downP c s x y = u) (h2 : downV c s x y = v) (hu : u ≠ nanc) (hv : v ≠ nanc) (w : World) :
    Calls Try.prog 29 #[.float .f64 c, .float .f64 s, .float .f64 x, .float .f64 y] w fun e w' => e = .returned (.tuple #[.float .f64 u, .float .f64 v]) ∧ Below w.heap.size w w' := by
  refine (gdown_any c s x y w).mono ?_
  rintro e w' ⟨⟨a, b, rfl, e1, e2, _, _⟩, n, rfl⟩
  rw [cn_val (e1.trans h1) hu, cn_val (e2.trans h2) hv]
  exact ⟨rfl, (Below.refl _ _).drewN _⟩

set_option maxRecDepth 100000 in
set_option maxHeartbeats 2000000 in
theorem live06 (w : World) : Calls Try.prog 26 #[] w fun e w' => e = .returned (.bool true) ∧ Below w.heap.size w w' := by
  go_enter Try.func26, Try.ntmps26
  go_wp2_with fail
  refine (lof _ _ (by decide) (by decide) _ ofT_34 w).mono ?_
  rintro e w1 ⟨rfl, hb1⟩
  have B1 := Lib.hid hb1
  clear hb1
  go_wp2_with fail
  refine (lof _ _ (by decide) (by decide) _ ofT_00 w1).mono ?_
  rintro e w2 ⟨rfl, hb2⟩
  have B2 := Lib.hid (Below.chain B1.out hb2)
  clear hb2 B1
  go_wp2_with fail
  refine (minf_any w2).mono ?_
  rintro e w' ⟨rfl, rfl⟩
  go_wp2_with fail
  refine (lof _ _ (by decide) (by decide) _ ofT_inf w2).mono ?_
  rintro e w3 ⟨rfl, hb3⟩
  have B3 := Lib.hid (Below.chain B2.out hb3)
  clear hb3 B2
  go_wp2_with fail
  refine (lturn _ _ _ _ _ _ t1 t2 (by decide) (by decide) w3).mono ?_
  rintro e w4 ⟨rfl, hb4⟩
  have B4 := Lib.hid (Below.chain B3.out hb4)
  clear hb4 B3
  go_wp2_with fail
  refine (lhy _ _ (by decide) (by decide) _ hypT_53 w4).mono ?_
  rintro e w5 ⟨rfl, hb5⟩
  have B5 := Lib.hid (Below.chain B4.out hb5)
  clear hb5 B4
  go_wp2_with fail
  refine (lhy _ _ (by decide) (by decide) _ hypT_33 w5).mono ?_
  rintro e w6 ⟨rfl, hb6⟩
  have B6 := Lib.hid (Below.chain B5.out hb6)
  clear hb6 B5
  go_wp2_with fail
  refine (lhy _ _ (by decide) (by decide) _ hypT_01 w6).mono ?_
  rintro e w7 ⟨rfl, hb7⟩
  have B7 := Lib.hid (Below.chain B6.out hb7)
  clear hb7 B6
  go_wp2_with fail
  refine (ldown _ _ _ _ _ _ d1 d2 (by decide) (by decide) w7).mono ?_
  rintro e w8 ⟨rfl, hb8⟩
  have B8 := Lib.hid (Below.chain B7.out hb8)
  clear hb8 B7
  go_wp2
  go_ret
  exact ⟨rfl, B8.out⟩

end Go.Proofs.Ytcoaachajdomcaa
