/- The walk of StatsSpread. -/
import Derived.Test.YtkhnoffhbfcgfaaVp9
import Derived.Test.YtkhnoffhbfcgfaaVj9
import Derived.Test.YtkhnoffhbfcgfaaZ9
set_option linter.unusedVariables false
namespace Go.Proofs.Ytkhnoffhbfcgfaa
open Go.RowKit Go.Shelf Lev

attribute [local go_sem] run_store_float order_lt order_gt order_eq order_ne order_le order_ge flt_or_feq flt_or_feq'

set_option maxRecDepth 100000 in
set_option maxHeartbeats 4000000 in
theorem statsSpread (f : Fct) (A : Option Addr) (c : Nat) (w : World) (hx : SlArg w A f.xs c) :
    Calls Try.prog 8 #[facV f.C A f.xs.length c f.R f.T] w fun e w' => e = .returned (.bool true) ∧ Below w.heap.size w w' := by
  have HLV := Lib.hid (fun W => live17 W)
  have k0 := ((KeepD.start w).more hx).pusho #[.int .i64 f.C, .slice A f.xs.length c, .int .i64 f.R, .int .i64 f.T] 24 (by decide)
  have K0 := Lib.hid k0
  have hl63 : f.xs.length ≤ 9223372036854775807 := Nat.le_trans hx.cap hx.room
  have hof := fun W h => sof_any f A c W h
  have hsp := fun W h => sspread_any f A c W h
  by_cases h60 : (60 : Int) < (f.xs.length : Int)
  · unfold facV
    clear hx k0 hof hsp
    go_enter Try.func8, Try.ntmps8
    go_wp2_with fail
    refine (HLV.out _).mono ?_
    rintro e w1 ⟨rfl, hb⟩
    have HB := Lib.hid (K0.out.call hb).below
    clear hb
    go_wp2
    go_ret
    exact ⟨rfl, HB.out⟩
  · by_cases hE : stE f = 0
    · have hok : f.ok = true := by
        cases e : f.ok
        · rw [stE_no e] at hE; exact absurd hE (by decide)
        · rfl
      have hfree : 1 ≤ f.R - f.C := by
        by_cases h2 : f.R - f.C < 1
        · rw [stE_few hok h2] at hE; exact absurd hE (by decide)
        · omega
      obtain ⟨v1, v2, v3⟩ := spread_law hok hfree
      obtain ⟨r1, r2, r3, r4⟩ := root_law v1 v2
      have hc := ok_len hok
      rw [stV_ok hE, hE] at hof
      have hspv : spV f = sqrtF (stVar f) := by unfold spV; rw [if_pos hE]
      rw [hspv, hE] at hsp
      obtain ⟨b1, b2⟩ : -9223372036854775808 ≤ f.R - f.C ∧ f.R - f.C < 9223372036854775808 := by omega
      generalize sqrtF (stVar f) = r at *
      generalize stVar f = v at *
      generalize stRest f = rest at *
      generalize stTot f = tot at *
      generalize stFit f = fit at *
      generalize f.R - f.C = free at *
      have q1 := fle0 r1 r2
      have HFR := Lib.hid (fun W => from03_any r r3 r1 W)
      have HFV := Lib.hid (fun W => from03_any v v3 v1 W)
      have HP53 := Lib.hid (fun W => pow04_any (-53) (by omega) (by omega) W)
      have HP1060 := Lib.hid (fun W => pow04_any (-1060) (by omega) (by omega) W)
      have s1 := R_mul (R_fv r1) (R_fv r1)
      have s2 : R 9000 9000 (fv r * fv r - fv v) := R_mono (R_sub s1 (R_mono (R_fv v1) (by omega) (by omega))) (by omega) (by omega)
      have s3 : R 1074 1035 (fv v * ((3 : Nat) : Rat)) := R_mul (a := 1074) (b := 1025) (c := 0) (d := 10) (R_fv v1) (R_nat (by rw [show (10 : Int) = ((10 : Nat) : Int) from rfl, pw_nat]; exact cast_lt.2 (by omega)))
      have s4 : R 1127 1036 (fv v * ((3 : Nat) : Rat) * pw (-53)) := R_mul (a := 1074) (b := 1035) (c := 53) (d := 1) s3 (R_pw (by omega) (by omega))
      have s5 : R 1127 1037 (fv v * ((3 : Nat) : Rat) * pw (-53) + pw (-1060)) := R_add s4 (R_pw (by omega) (by omega))
      have S1 := Lib.hid s1; have S2 := Lib.hid s2; have S3 := Lib.hid s3; have S4 := Lib.hid s4; have S5 := Lib.hid s5
      have hle : cmpQ (ab (fv r * fv r - fv v)) (fv v * ((3 : Nat) : Rat) * pw (-53) + pw (-1060)) ≤ 0 := by
        rw [cmpQ_le, uu_eq]; exact r4
      have HMU1 := Lib.hid (fun W u1 u2 h1 h2 => mul03_any u1 u2 (fv v * ((3 : Nat) : Rat)) (pw (-53)) W h1 h2 (R_Q S4.out (by omega) (by omega)))
      have HAD1 := Lib.hid (fun W u1 u2 h1 h2 => add03_any u1 u2 (fv v * ((3 : Nat) : Rat) * pw (-53)) (pw (-1060)) W h1 h2 (R_Q S5.out (by omega) (by omega)))
      have HTI := Lib.hid (fun W u1 h1 => times04_any u1 (fv v) 3 W h1 (by omega) (R_Q S3.out (by omega) (by omega)))
      have HMU2 := Lib.hid (fun W u1 u2 h1 h2 => mul03_any u1 u2 (fv r) (fv r) W h1 h2 (R_Q S1.out (by omega) (by omega)))
      have HSU := Lib.hid (fun W u1 u2 h1 h2 => sub03_any u1 u2 (fv r * fv r) (fv v) W h1 h2 (R_Q S2.out (by omega) (by omega)))
      have HABS := Lib.hid (fun W u1 h1 => abs03_any u1 (fv r * fv r - fv v) W h1)
      have HCM := Lib.hid (fun W u1 u2 h1 h2 => cmp03_any u1 u2 (ab (fv r * fv r - fv v)) (fv v * ((3 : Nat) : Rat) * pw (-53) + pw (-1060)) W h1 h2)
      generalize cmpQ (ab (fv r * fv r - fv v)) (fv v * ((3 : Nat) : Rat) * pw (-53) + pw (-1060)) = cq at *
      generalize ab (fv r * fv r - fv v) = P1 at *
      generalize fv r * fv r - fv v = P2 at *
      generalize fv r * fv r = P3 at *
      generalize fv v * ((3 : Nat) : Rat) * pw (-53) + pw (-1060) = P4 at *
      generalize fv v * ((3 : Nat) : Rat) * pw (-53) = P5 at *
      generalize fv v * ((3 : Nat) : Rat) = P6 at *
      generalize fv r = RF at *
      generalize fv v = VF at *
      unfold facV at hof hsp ⊢
      have HOF := Lib.hid hof; have HSP := Lib.hid hsp
      clear hx k0 hof hsp hE hok hfree v1 v2 v3 r1 r2 r3 r4 hc hspv s1 s2 s3 s4 s5
      go_enter Try.func8, Try.ntmps8
      go_wp2_with fail
      refine (HOF.out _ (K0.out.arg (.head _))).mono ?_
      rintro e w1 ⟨rfl, hb⟩
      have K1 := Lib.hid ((K0.out.call hb).pusho #[.int .i64 free, .float .f64 rest, .float .f64 tot, .float .f64 v, .float .f64 fit] 28 (by decide))
      obtain ⟨a0, a1, a2, a3⟩ := (K1.out.other (.tail _ (.head _))).c4
      clear hb
      go_wp2_with fail
      refine (HSP.out _ (K1.out.arg (.head _))).mono ?_
      rintro e w2 ⟨rfl, hb⟩
      have K2 := Lib.hid (K1.out.call hb)
      clear hb a0 a1 a2 a3
      go_wp2_with fail
      refine (HFR.out _).mono ?_
      rintro e w3 ⟨⟨u, rfl, hv⟩, hb3⟩
      obtain ⟨d3, A3, c3, rfl, ha3, hv3⟩ := hv.a
      have k3 := (K2.out.call hb3).push ha3
      have hcell := (k3.other (.head _)).cell 3
      obtain ⟨E3, hE3⟩ : ∃ E3, E3 = w3.alloc (.cells #[.bool d3.neg, .slice A3 (nd d3.n).length c3, .int .i64 d3.e] 46) := ⟨_, rfl⟩
      rw [← hE3] at k3
      have K3 := Lib.hid k3
      have HE3 := Lib.hid hE3
      have HX3 := Lib.hid hv3
      replace hcell := (show _ = some (Value.float .f64 v) from hcell)
      unfold dyV
      clear hv ha3 hb3 k3 hE3 hv3
      go_wp2_with fail
      rw [← HE3.out]
      clear HE3 hcell
      refine (HFV.out _).mono ?_
      rintro e w4 ⟨⟨v, rfl, hv⟩, hb4⟩
      obtain ⟨d4, A4, c4, rfl, ha4, hv4⟩ := hv.a
      have k4 := (K3.out.call hb4).push ha4
      obtain ⟨E4, hE4⟩ : ∃ E4, E4 = w4.alloc (.cells #[.bool d4.neg, .slice A4 (nd d4.n).length c4, .int .i64 d4.e] 46) := ⟨_, rfl⟩
      rw [← hE4] at k4
      obtain ⟨g4, hg4, k4⟩ := k4.name
      have K4 := Lib.hid k4
      have HE4 := Lib.hid hE4
      have HX4 := Lib.hid hv4
      have HG4 := Lib.hid hg4
      unfold dyV
      clear hv ha4 hb4 k4 hE4 hv4 hg4
      go_wp2_with fail
      rw [← HE4.out, HG4.out]
      clear HE4
      have HD4 := Lib.hid (show DyV E4 (dyV d4 A4 c4) VF by have := (K4.out.val (.head _)).v; rw [HX4.out] at this; exact this)
      obtain ⟨a0, a1, a2⟩ := (K4.out.box (.head _)).c3
      unfold dyV at HD4
      go_wp2_with fail
      refine (HTI.out _ _ HD4.out).mono ?_
      rintro e w5 ⟨⟨v, rfl, hv⟩, hb5⟩
      have K5 := Lib.hid (K4.out.call hb5)
      obtain ⟨d5, A5, c5, rfl, ha5, hv5⟩ := hv.a
      have HV5 := Lib.hid hv
      unfold dyV at HV5 ⊢
      clear hv ha5 hv5 hb5
      clear a0 a1 a2
      go_wp2_with fail
      refine (HP53.out _).mono ?_
      rintro e w6 ⟨⟨v, rfl, hv⟩, hb6⟩
      have K6 := Lib.hid (K5.out.call hb6)
      have hk5 := HV5.out.below hb6
      clear HV5
      have HV5 := Lib.hid hk5
      clear hk5
      obtain ⟨d6, A6, c6, rfl, ha6, hv6⟩ := hv.a
      have HV6 := Lib.hid hv
      unfold dyV at HV6 ⊢
      clear hv ha6 hv6 hb6
      go_wp2_with fail
      refine (HMU1.out _ _ _ HV5.out HV6.out).mono ?_
      rintro e w7 ⟨⟨v, rfl, hv⟩, hb7⟩
      have K7 := Lib.hid (K6.out.call hb7)
      obtain ⟨d7, A7, c7, rfl, ha7, hv7⟩ := hv.a
      have HV7 := Lib.hid hv
      unfold dyV at HV7 ⊢
      clear hv ha7 hv7 hb7
      go_wp2_with fail
      refine (HP1060.out _).mono ?_
      rintro e w8 ⟨⟨v, rfl, hv⟩, hb8⟩
      have K8 := Lib.hid (K7.out.call hb8)
      have hk7 := HV7.out.below hb8
      clear HV7
      have HV7 := Lib.hid hk7
      clear hk7
      obtain ⟨d8, A8, c8, rfl, ha8, hv8⟩ := hv.a
      have HV8 := Lib.hid hv
      unfold dyV at HV8 ⊢
      clear hv ha8 hv8 hb8
      go_wp2_with fail
      refine (HAD1.out _ _ _ HV7.out HV8.out).mono ?_
      rintro e w9 ⟨⟨v, rfl, hv⟩, hb9⟩
      obtain ⟨d9, A9, c9, rfl, ha9, hv9⟩ := hv.a
      have k9 := (K8.out.call hb9).push ha9
      obtain ⟨E9, hE9⟩ : ∃ E9, E9 = w9.alloc (.cells #[.bool d9.neg, .slice A9 (nd d9.n).length c9, .int .i64 d9.e] 46) := ⟨_, rfl⟩
      rw [← hE9] at k9
      obtain ⟨g9, hg9, k9⟩ := k9.name
      have K9 := Lib.hid k9
      have HE9 := Lib.hid hE9
      have HX9 := Lib.hid hv9
      have HG9 := Lib.hid hg9
      unfold dyV
      clear hv ha9 hb9 k9 hE9 hv9 hg9
      go_wp2_with fail
      rw [← HE9.out, HG9.out]
      clear HE9
      have HNM := Lib.hid (fun Y (h : Below E9.heap.size E9 Y) => HMU2.out Y _ _ (by have := ((K9.out.call h).val (.tail _ (.tail _ (.head _)))).v; rw [HX3.out] at this; exact this) (by have := ((K9.out.call h).val (.tail _ (.tail _ (.head _)))).v; rw [HX3.out] at this; exact this))
      have HNS := Lib.hid (fun Y u1 (h : Below E9.heap.size E9 Y) h1 => HSU.out Y u1 _ h1 (by have := ((K9.out.call h).val (.tail _ (.head _))).v; rw [HX4.out] at this; exact this))
      have HNC := Lib.hid (fun Y u1 (h : Below E9.heap.size E9 Y) h1 => HCM.out Y u1 _ h1 (by have := ((K9.out.call h).val (.head _)).v; rw [HX9.out] at this; exact this))
      unfold dyV at HNM HNS HNC
      have HKE := Lib.hid (fun Y (h : Below E9.heap.size E9 Y) => And.intro ((K9.out.call h).box (.head _)).c3 (And.intro ((K9.out.call h).box (.tail _ (.head _))).c3 (And.intro ((K9.out.call h).box (.tail _ (.tail _ (.head _)))).c3 (h))))
      go_region_held3 (fun Y => ((Y.cell? ⟨g9, 0, none⟩ = some (.bool d9.neg) ∧ Y.cell? ⟨g9, 1, none⟩ = some (.slice A9 (nd d9.n).length c9) ∧ Y.cell? ⟨g9, 2, none⟩ = some (.int .i64 d9.e)) ∧ (Y.cell? ⟨g4, 0, none⟩ = some (.bool d4.neg) ∧ Y.cell? ⟨g4, 1, none⟩ = some (.slice A4 (nd d4.n).length c4) ∧ Y.cell? ⟨g4, 2, none⟩ = some (.int .i64 d4.e)) ∧ (Y.cell? ⟨w3.heap.size, 0, none⟩ = some (.bool d3.neg) ∧ Y.cell? ⟨w3.heap.size, 1, none⟩ = some (.slice A3 (nd d3.n).length c3) ∧ Y.cell? ⟨w3.heap.size, 2, none⟩ = some (.int .i64 d3.e)) ∧ Below E9.heap.size E9 Y))
        ((refine HKE.out _ ?_; (repeat (first | assumption | exact Below.refl _ _ | refine Below.allocs ?_ _ | refine Below.drews ?_ | refine Below.chain ?_ (by assumption)))))
        (first
          | (go_at_call 23; (refine (HNM.out _ (by repeat (first | assumption | exact Below.refl _ _ | refine Below.allocs ?_ _ | refine Below.drews ?_ | refine Below.chain ?_ (by assumption)))).mono ?_); rintro e y21 ⟨⟨v, rfl, hmv⟩, hb21⟩; obtain ⟨d21, A21, c21, rfl, ha21, hv21⟩ := hmv.a; unfold dyV at *)
          | (go_at_call 29; (refine (HNS.out _ _ (by repeat (first | assumption | exact Below.refl _ _ | refine Below.allocs ?_ _ | refine Below.drews ?_ | refine Below.chain ?_ (by assumption))) (hmv.below (by repeat (first | assumption | exact Below.refl _ _ | refine Below.allocs ?_ _ | refine Below.drews ?_ | refine Below.chain ?_ (by assumption))))).mono ?_); rintro e y22 ⟨⟨v, rfl, hsv⟩, hb22⟩; obtain ⟨d22, A22, c22, rfl, ha22, hv22⟩ := hsv.a; unfold dyV at *)
          | (go_at_call 28; (refine (HABS.out _ _ (hsv.below (by repeat (first | assumption | exact Below.refl _ _ | refine Below.allocs ?_ _ | refine Below.drews ?_ | refine Below.chain ?_ (by assumption))))).mono ?_); rintro e y23 ⟨⟨v, rfl, hav⟩, hb23⟩; obtain ⟨d23, A23, c23, rfl, ha23, hv23⟩ := hav.a; unfold dyV at *)
          | (go_at_call 27; (refine (HNC.out _ _ (by repeat (first | assumption | exact Below.refl _ _ | refine Below.allocs ?_ _ | refine Below.drews ?_ | refine Below.chain ?_ (by assumption))) (hav.below (by repeat (first | assumption | exact Below.refl _ _ | refine Below.allocs ?_ _ | refine Below.drews ?_ | refine Below.chain ?_ (by assumption))))).mono ?_); rintro e y24 ⟨rfl, hb24⟩)
          | (go_at_call 9; (refine (HLV.out _).mono ?_); rintro e y25 ⟨rfl, hb25⟩; have hbE : Below E9.heap.size E9 y25 := (Below.chain (by repeat (first | assumption | exact Below.refl _ _ | refine Below.allocs ?_ _ | refine Below.drews ?_ | refine Below.chain ?_ (by assumption))) hb25)))
      all_goals
        have HBE := Lib.hid (K9.out.call hbE).below
        go_wp2
        go_ret
        exact ⟨rfl, HBE.out⟩
    · have hb := stV_bad hE
      rw [hb] at hof
      have hspv : spV f = 0 := by unfold spV; rw [if_neg hE]
      rw [hspv] at hsp
      have hE2 : stE f = 1 ∨ stE f = 5 := by
        cases e : f.ok
        · exact .inl (stE_no e)
        · by_cases h2 : f.R - f.C < 1
          · exact .inr (stE_few e h2)
          · exact absurd (stE_ok e (by omega)) hE
      have HSA := Lib.hid (fun W => rsame_any 0 0 (by decide) (by decide) W)
      have hs0 : sameS 0 0 = true := by decide
      rw [hs0] at HSA
      unfold facV at hof hsp ⊢
      rcases hE2 with h | h
      all_goals
        rw [h] at hof hsp
        have HOF := Lib.hid hof; have HSP := Lib.hid hsp
        clear hx k0 hof hsp hb hspv hE h hs0
        go_enter Try.func8, Try.ntmps8
        go_wp2_with fail
        refine (HOF.out _ (K0.out.arg (.head _))).mono ?_
        rintro e w1 ⟨rfl, hb⟩
        have K1 := Lib.hid ((K0.out.call hb).pusho #[.int .i64 0, .float .f64 0, .float .f64 0, .float .f64 0, .float .f64 0] 28 (by decide))
        obtain ⟨a0, a1, a2, a3⟩ := (K1.out.other (.tail _ (.head _))).c4
        clear hb
        go_wp2_with fail
        refine (HSP.out _ (K1.out.arg (.head _))).mono ?_
        rintro e w2 ⟨rfl, hb⟩
        have K2 := Lib.hid (K1.out.call hb)
        clear hb a0 a1 a2 a3
        go_wp2_with fail
        refine (HSA.out _).mono ?_
        rintro e w' ⟨rfl, rfl⟩
        go_wp2_with fail
        refine (HLV.out _).mono ?_
        rintro e w4 ⟨rfl, hb⟩
        have HB := Lib.hid (K2.out.call hb).below
        clear hb
        go_wp2
        go_ret
        exact ⟨rfl, HB.out⟩
end Go.Proofs.Ytkhnoffhbfcgfaa
