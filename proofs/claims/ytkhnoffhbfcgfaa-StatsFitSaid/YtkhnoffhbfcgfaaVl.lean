/- The walk of StatsFit. -/
import Derived.Test.YtkhnoffhbfcgfaaVj
set_option linter.unusedVariables false
namespace Lev
theorem fle_pos {a b : Nat} (ha : sg a = false) (hb : sg b = false) (fa : fin a) (fb : fin b) (h : rg a ≤ rg b) : fle a b = true := by
  unfold fle
  unfold fin at fa fb
  rw [decide_eq_true_eq]
  refine ⟨by omega, by omega, ?_⟩
  unfold ord; rw [ha, hb]; simpa using h
theorem feq_pos {a b : Nat} (ha : sg a = false) (hb : sg b = false) (fa : fin a) (fb : fin b) (h : rg a = rg b) : feq a b = true := by
  unfold feq
  unfold fin at fa fb
  rw [decide_eq_true_eq]
  refine ⟨by omega, by omega, ?_⟩
  unfold ord; rw [ha, hb]; simp [h]
theorem fit_facts {f : Fct} (h : f.ok = true) (hf : 1 ≤ f.R - f.C) :
    fle 0 (stRest f) = true ∧ fle (stRest f) (stTot f) = true ∧ fle 0 (stFit f) = true ∧ fle (stFit f) 4607182418800017408 = true ∧ fle 0 (stVar f) = true ∧ fle (stVar f) (stRest f) = true ∧ decide (rg (stTot f) = INF) = false ∧ (f.R - f.C = 1 → feq (stVar f) (stRest f) = true) := by
  obtain ⟨p1, p2, p3, p4, p5, p6, p7, p8, p9, p10, p11, p12, p13, p14, p15⟩ := st_facts h hf
  have z1 : sg 0 = false := by decide
  have z2 : fin 0 := by decide
  have z3 : rg 0 = 0 := by decide
  have o1 : sg 4607182418800017408 = false := by decide
  have o2 : fin 4607182418800017408 := by decide
  have o3 : rg 4607182418800017408 = oneF := by decide
  have fv : fin (stVar f) := by unfold fin at p11 ⊢; omega
  have ff : fin (stFit f) := by unfold fin; have : oneF < INF := by decide
                                omega
  exact ⟨fle_pos z1 p7 z2 p11 (by omega), fle_pos p7 p8 p11 p12 (stRest_tot h), fle_pos z1 p10 z2 ff (by omega), fle_pos p10 o1 ff o2 (by omega), fle_pos z1 p9 z2 fv (by omega), fle_pos p9 p7 fv p11 p13,
    decide_eq_false (by unfold fin at p12; omega), fun e => feq_pos p9 p7 fv p11 (p15 e)⟩
end Lev
namespace Go.Proofs.Ytkhnoffhbfcgfaa
open Go.RowKit Go.Shelf Lev

attribute [local go_sem] run_store_float order_lt order_gt order_eq order_ne flt_or_feq flt_or_feq'

set_option maxRecDepth 100000 in
set_option maxHeartbeats 4000000 in
theorem statsFit_long (f : Fct) (A : Option Addr) (c : Nat) (w : World) (hx : SlArg w A f.xs c) (h60 : (60 : Int) < (f.xs.length : Int)) :
    Calls Try.prog 5 #[facV f.C A f.xs.length c f.R f.T] w fun e w' => e = .returned (.bool true) ∧ Below w.heap.size w w' := by
  have K0 := Lib.hid (((Keep.start w).more hx).alloc #[.int .i64 f.C, .slice A f.xs.length c, .int .i64 f.R, .int .i64 f.T] 24)
  unfold facV
  clear hx
  go_enter Try.func5, Try.ntmps5
  go_wp2_with fail
  refine (live17 _).mono ?_
  rintro e w1 ⟨rfl, hb⟩
  have K1 := Lib.hid (K0.out.call hb)
  clear hb
  go_wp2
  go_ret
  exact ⟨rfl, K1.out.below⟩

set_option maxRecDepth 100000 in
set_option maxHeartbeats 4000000 in
theorem statsFit_bad (f : Fct) (A : Option Addr) (c : Nat) (w : World) (hx : SlArg w A f.xs c) (h60 : ¬ (60 : Int) < (f.xs.length : Int)) (hE : (stE f = 1 ∧ f.ok = false) ∨ (stE f = 5 ∧ f.ok = true)) :
    Calls Try.prog 5 #[facV f.C A f.xs.length c f.R f.T] w fun e w' => e = .returned (.bool true) ∧ Below w.heap.size w w' := by
  have hof := fun W h => sof_any f A c W h
  have hck := fun W h => rcheck_any f.C A f.xs c f.R f.T W h
  rw [stV_bad (by omega)] at hof
  have HSM := Lib.hid (fun W => rssame_any 0 0 0 0 0 (by decide) (by decide) (by decide) (by decide) W)
  have K0 := Lib.hid (((Keep.start w).more hx).alloc #[.int .i64 f.C, .slice A f.xs.length c, .int .i64 f.R, .int .i64 f.T] 24)
  rw [show checkS f.C f.xs f.R f.T = f.ok from rfl] at hck
  unfold facV at hof hck ⊢
  rcases hE with ⟨e1, e2⟩ | ⟨e1, e2⟩
  all_goals
    rw [e1] at hof
    rw [e2] at hck
    have HOF := Lib.hid hof; have HCK := Lib.hid hck
    clear hx hof hck e1 e2
    go_enter Try.func5, Try.ntmps5
    go_wp2_with fail
    refine (HOF.out _ (K0.out.arg (.head _))).mono ?_
    rintro e w1 ⟨rfl, hb⟩
    have K1 := Lib.hid ((K0.out.call hb).alloc #[.int .i64 0, .float .f64 0, .float .f64 0, .float .f64 0, .float .f64 0] 28)
    clear hb
    go_wp2_with fail
    refine (HSM.out _).mono ?_
    rintro e w2 ⟨rfl, hb⟩
    have k2 := K1.out.call hb
    have K2 := Lib.hid k2
    obtain ⟨a0, a1, a2, a3⟩ := (k2.box (.tail _ (.head _))).c4
    clear hb k2
    go_wp2_with fail
    clear a0 a1 a2 a3
    refine (HCK.out _ (K2.out.arg (.head _))).mono ?_
    rintro e w3 ⟨rfl, hb⟩
    have K3 := Lib.hid (K2.out.call hb).below
    clear hb
    go_wp2_with fail
    refine (live17 _).mono ?_
    rintro e w4 ⟨rfl, hb⟩
    have K4 := Lib.hid (Below.chain K3.out hb)
    clear hb
    go_wp2
    go_ret
    exact ⟨rfl, K4.out⟩

set_option maxRecDepth 100000 in
set_option maxHeartbeats 4000000 in
theorem statsFit_ok (f : Fct) (A : Option Addr) (c : Nat) (w : World) (hx : SlArg w A f.xs c) (h60 : ¬ (60 : Int) < (f.xs.length : Int)) (hok : f.ok = true) (hf : 1 ≤ f.R - f.C) :
    Calls Try.prog 5 #[facV f.C A f.xs.length c f.R f.T] w fun e w' => e = .returned (.bool true) ∧ Below w.heap.size w w' := by
  obtain ⟨k1, k2, kx, k4, k5, k6, k7, k8, ky⟩ := ok_len hok
  clear kx ky
  have hof := fun W h => sof_any f A c W h
  obtain ⟨q1, q2, q3, q4, q5, q6, q7, q8⟩ := fit_facts hok hf
  obtain ⟨_, _, _, b2, _⟩ := st_facts hok hf
  have hii := fun W => isInf_any (stTot f) b2 W
  rw [q7] at hii
  rw [stV_ok (stE_ok hok hf), stE_ok hok hf] at hof
  have K0 := Lib.hid (((Keep.start w).more hx).alloc #[.int .i64 f.C, .slice A f.xs.length c, .int .i64 f.R, .int .i64 f.T] 24)
  unfold facV at hof ⊢
  have HOF := Lib.hid hof; have HII := Lib.hid hii
  have t1 : decide ((1 : Int) ≤ f.R - f.C) = true := decide_eq_true hf
  have t2 : IntKind.i64.wrap (f.R - f.C) = f.R - f.C := by rw [IntKind.wrap_i64]; omega
  have t3 : ((f.R - f.C) == (f.R - f.C)) = true := beq_self_eq_true _
  have Q8 := Lib.hid q8
  clear hx hof hii q7 q8 b2 hok
  generalize stRest f = r at *
  generalize stTot f = t at *
  generalize stVar f = v at *
  generalize stFit f = x at *
  have hcase : ((f.R - f.C) != 1) = true ∨ (((f.R - f.C) != 1) = false ∧ feq v r = true) := by
    by_cases h : f.R - f.C = 1
    · exact .inr ⟨by rw [bne_eq_false_iff_eq]; exact h, Q8.out h⟩
    · exact .inl (by rw [bne_iff_ne]; exact h)
  clear Q8
  rcases hcase with t4 | ⟨t4, q9⟩
  all_goals
    go_enter Try.func5, Try.ntmps5
    go_wp2_with fail
    refine (HOF.out _ (K0.out.arg (.head _))).mono ?_
    rintro e w1 ⟨rfl, hb⟩
    have K1 := Lib.hid ((K0.out.call hb).alloc #[.int .i64 (f.R - f.C), .float .f64 r, .float .f64 t, .float .f64 v, .float .f64 x] 28)
    obtain ⟨a0, a1, a2, a3⟩ := ((K0.out.call hb).box (.head _)).c4
    have hz := ((K0.out.call hb).box (.head _)).lt
    clear hb
    go_wp2_with fail
    refine (HII.out _).mono ?_
    rintro e w' ⟨rfl, rfl⟩
    go_wp2_with fail
    refine (live17 _).mono ?_
    rintro e w4 ⟨rfl, hb⟩
    have K4 := Lib.hid (K1.out.call hb).below
    clear hb
    go_wp2
    go_ret
    exact ⟨rfl, K4.out⟩

theorem statsFit (f : Fct) (A : Option Addr) (c : Nat) (w : World) (hx : SlArg w A f.xs c) :
    Calls Try.prog 5 #[facV f.C A f.xs.length c f.R f.T] w fun e w' => e = .returned (.bool true) ∧ Below w.heap.size w w' := by
  by_cases h60 : (60 : Int) < (f.xs.length : Int)
  · exact statsFit_long f A c w hx h60
  · cases hok : f.ok
    · exact statsFit_bad f A c w hx h60 (.inl ⟨stE_no hok, hok⟩)
    · by_cases h : f.R - f.C < 1
      · exact statsFit_bad f A c w hx h60 (.inr ⟨stE_few hok h, hok⟩)
      · exact statsFit_ok f A c w hx h60 hok (by omega)

end Go.Proofs.Ytkhnoffhbfcgfaa
