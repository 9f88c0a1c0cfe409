/- The walk of KernSizes. -/
import Derived.Test.YtfnhcgpdlhndhaaYq
set_option linter.unusedVariables false
namespace Lev
theorem R_of_sum1 {t : Nat → Rat} {n : Nat} (hn : n ≤ 40) (h : ∀ i, i < n → R 1074 1025 (t i)) : R 9000 9000 (sumR t n) := R_mono (R_sum n h) (by omega) (by omega)
end Lev
namespace Go.Proofs.Ytfnhcgpdlhndhaa
open Go.RowKit Go.Shelf Lev

attribute [local go_sem] order_lt order_gt order_eq order_ne flt_or_feq flt_or_feq'

set_option maxRecDepth 100000 in
set_option maxHeartbeats 2000000 in
theorem kernSizes (xs : List Nat) (A : Option Addr) (c : Nat) (w : World) (hx : SlArg w A xs c) :
    Calls Try.prog 5 #[.slice A xs.length c] w fun e w' => e = .returned (.bool true) ∧ Below w.heap.size w w' := by
  have hl63 : xs.length ≤ 9223372036854775807 := Nat.le_trans hx.cap hx.room
  by_cases h1 : (12 : Int) < (xs.length : Int)
  · have HLV := Lib.hid (live05 w)
    clear hx
    go_enter Try.func5, Try.ntmps5
    go_wp2_with fail
    refine HLV.out.mono ?_
    rintro e w' ⟨rfl, hb⟩
    have HB := Lib.hid hb
    clear hb
    go_wp2
    go_ret
    exact ⟨rfl, HB.out⟩
  · have hl : xs.length ≤ 12 := by omega
    have K0 := Lib.hid ((KeepD.start w).more hx)
    have HS := Lib.hid (ksum_any A xs c w hx (by omega))
    have HN := Lib.hid (fun W h => knorm_any A xs c W (hx.below h) (by omega))
    have HAL := Lib.hid (fun W h => rkall_any A xs c W (hx.below h))
    have HLV := Lib.hid (fun W => live05 W)
    cases hall : allIn xs
    · rw [hall] at HS HN HAL
      have e1 : sumF xs = 0 := by unfold sumF; rw [if_neg (by rw [hall]; decide)]
      have e2 : normF xs = 0 := by unfold normF; rw [if_neg (fun h => by rw [hall] at h; exact absurd h.1 (by decide))]
      rw [e1] at HS
      rw [e2] at HN
      have z0 : feq 0 0 = true := by decide
      clear hx e1 e2
      go_enter Try.func5, Try.ntmps5
      go_wp2_with fail
      refine HS.out.mono ?_
      rintro e w1 ⟨rfl, hb1⟩
      have K1 := Lib.hid (K0.out.call hb1)
      clear hb1
      go_wp2_with fail
      refine (HN.out _ K1.out.below).mono ?_
      rintro e w2 ⟨rfl, hb2⟩
      have K2 := Lib.hid (K1.out.call hb2)
      clear hb2
      go_wp2_with fail
      refine (HAL.out _ K2.out.below).mono ?_
      rintro e w3 ⟨rfl, rfl⟩
      go_wp2_with fail
      refine (HLV.out _).mono ?_
      rintro e w4 ⟨rfl, hb4⟩
      have HB := Lib.hid (K2.out.call hb4).below
      clear hb4
      go_wp2
      go_ret
      exact ⟨rfl, HB.out⟩
    · rw [hall] at HS HN HAL
      have fx : ∀ i, i < xs.length → fin (ge xs i) := fun i hi => (inS_bd (allIn_get hall hi)).1
      have hsf : sumF xs < 18446744073709551616 ∧ fin (sumF xs) := by
        have hs := sumT_bd (t := absT xs) (E := 400) (by decide) (by decide) xs.length (by omega) (fun i hi => absT_bd hall hi)
        unfold sumF; rw [if_pos hall]; exact ⟨hs.2.2, hs.1⟩
      have hnl : normF xs < 18446744073709551616 := by
        unfold normF; split
        · exact ldS_lt _ _
        · decide
      obtain ⟨hnf, hnlaw⟩ := norm_law hall hl
      have HSF := Lib.hid hsf; have HNL := Lib.hid hnl; have HNF := Lib.hid hnf; have HNLAW := Lib.hid hnlaw
      have HSLAW := Lib.hid (sums_law hall hl)
      have hS1 := Lib.hid (fun W h => sizes05_any xs A c W (hx.below h) (by omega))
      have hSU := Lib.hid (fun W R1 m1 h => sum03_any (absL xs) R1 m1 W h (by rw [absL_len]; omega) (fun i hi => by
        rw [absL_len] at hi
        rw [absL_ge xs hi]; exact fin_rg' (fx i hi)))
      have hD1 := Lib.hid (fun W h => dot03_any xs xs A A c c W (hx.below h) (hx.below h) rfl (by omega) fx fx)
      have hFR := Lib.hid (fun W => from03_any (normF xs) hnl hnf W)
      have hsum : sumR (fun i => fv (ge (absL xs) i)) (absL xs).length = sumR (fun i => ab (fv (ge xs i))) xs.length := by
        rw [absL_len]
        refine sumR_congr _ (fun i hi => ?_)
        show fv (ge (absL xs) i) = _
        rw [absL_ge xs hi, fv_rg]
      rw [hsum] at hSU
      have hRS : R 9000 9000 (sumR (fun i => ab (fv (ge xs i))) xs.length) := R_of_sum1 (by omega) (fun i hi => R_ab (R_fv (fx i hi)))
      have hRQ : R 9000 9000 (sumR (fun i => fv (ge xs i) * fv (ge xs i)) xs.length) := R_of_sum (by omega) (fun i hi => R_mul (R_fv (fx i hi)) (R_fv (fx i hi)))
      have hRN : R 1074 1025 (fv (normF xs)) := R_fv hnf
      have HRS := Lib.hid hRS; have HRQ := Lib.hid hRQ; have HRN := Lib.hid hRN
      generalize sumF xs = s at *
      generalize normF xs = nn at *
      generalize sumR (fun i => ab (fv (ge xs i))) xs.length = S at *
      generalize sumR (fun i => fv (ge xs i) * fv (ge xs i)) xs.length = Q2 at *
      clear hx hall fx hsf hnl hnf hnlaw hsum hRS hRQ hRN
      go_enter Try.func5, Try.ntmps5
      go_wp2_with fail
      refine HS.out.mono ?_
      rintro e w1 ⟨rfl, hb1⟩
      have K1 := Lib.hid (K0.out.call hb1)
      clear hb1
      go_wp2_with fail
      refine (HN.out _ K1.out.below).mono ?_
      rintro e w2 ⟨rfl, hb2⟩
      have K2 := Lib.hid (K1.out.call hb2)
      clear hb2
      go_wp2_with fail
      refine (HAL.out _ K2.out.below).mono ?_
      rintro e w3 ⟨rfl, rfl⟩
      go_wp2_with fail
      refine (hS1.out _ K2.out.below).mono ?_
      rintro e w3 ⟨⟨R1, m1, rfl, hs3⟩, hb3⟩
      have K3 := Lib.hid ((K2.out.call hb3).more hs3)
      clear hs3 hb3
      go_wp2_with fail
      refine (hSU.out _ _ _ (K3.out.arg (.head _))).mono ?_
      rintro e w4 ⟨⟨v, rfl, hv⟩, hb4⟩
      obtain ⟨d1, A1, c1, rfl, ha1, hv1⟩ := hv.a
      have k4 := (K3.out.call hb4).push ha1
      obtain ⟨W4, hW4⟩ : ∃ W4, W4 = w4.alloc (.cells #[.bool d1.neg, .slice A1 (nd d1.n).length c1, .int .i64 d1.e] 30) := ⟨_, rfl⟩
      rw [← hW4] at k4
      have K4 := Lib.hid k4
      have HW4 := Lib.hid hW4; have HV1 := Lib.hid hv1
      unfold dyV
      clear hv ha1 hb4 k4 hW4 hv1
      go_wp2_with fail
      rw [← HW4.out]
      refine (hD1.out _ K4.out.below).mono ?_
      rintro e w5 ⟨⟨v, rfl, hv⟩, hb5⟩
      obtain ⟨d2, A2, c2, rfl, ha2, hv2⟩ := hv.a
      have k5 := (K4.out.call hb5).push ha2
      obtain ⟨W5, hW5⟩ : ∃ W5, W5 = w5.alloc (.cells #[.bool d2.neg, .slice A2 (nd d2.n).length c2, .int .i64 d2.e] 30) := ⟨_, rfl⟩
      rw [← hW5] at k5
      have K5 := Lib.hid k5
      have HW5 := Lib.hid hW5; have HV2 := Lib.hid hv2
      unfold dyV
      clear hv ha2 hb5 k5 hW5 hv2
      go_wp2_with fail
      rw [← HW5.out]
      refine (hFR.out _).mono ?_
      rintro e w6 ⟨⟨v, rfl, hv⟩, hb6⟩
      obtain ⟨d3, A3, c3, rfl, ha3, hv3⟩ := hv.a
      have k6 := (K5.out.call hb6).push ha3
      obtain ⟨b0, b1, b2⟩ := (k6.box (.tail _ (.tail _ (.head _)))).c3
      obtain ⟨W6, hW6⟩ : ∃ W6, W6 = w6.alloc (.cells #[.bool d3.neg, .slice A3 (nd d3.n).length c3, .int .i64 d3.e] 30) := ⟨_, rfl⟩
      rw [← hW6] at k6
      have K6 := Lib.hid k6
      have HW6 := Lib.hid hW6; have HV3 := Lib.hid hv3
      have hap := fun v' h' => apart05_any s _ _ v' xs.length S S 0 W6 HSF.out.1 HSF.out.2 (by have := (k6.val (.tail _ (.tail _ (.head _)))).v; rw [HV1.out] at this; exact this) (by have := (k6.val (.tail _ (.tail _ (.head _)))).v; rw [HV1.out] at this; exact this) h' (by omega) HRS.out HRS.out (R_zero _ _)
      have hno : decide (S * (xs.length : Rat) * pw (-53) + 0 < ab (fv s - S)) = false := decide_eq_false HSLAW.out
      rw [hno] at hap
      have HAP := Lib.hid (hap _ (DyV.zero W6))
      unfold dyV zDy at HAP
      unfold dyV
      clear hv ha3 hb6 k6 hW6 hv3 hap hno HSLAW HSF
      go_wp2_with fail
      rw [← HW6.out]
      refine HAP.out.mono ?_
      rintro e w7 ⟨rfl, hb7⟩
      have k7 := K6.out.call hb7
      have K7 := Lib.hid k7
      clear b0 b1 b2
      obtain ⟨b0, b1, b2⟩ := (k7.box (.tail _ (.head _))).c3
      have hR1 : R 9000 9010 (Q2 * ((xs.length + 4 : Nat) : Rat)) := R_mul (a := 9000) (b := 9000) (c := 0) (d := 10) HRQ.out (R_nat (by rw [show (10 : Int) = ((10 : Nat) : Int) from rfl, pw_nat]; exact cast_lt.2 (by omega)))
      have hR2 : R 9053 9011 (Q2 * ((xs.length + 4 : Nat) : Rat) * pw (-53)) := R_mul (a := 9000) (b := 9010) (c := 53) (d := 1) hR1 (R_pw (by omega) (by omega))
      have HTI := Lib.hid (times04_any _ d2.v (xs.length + 4) w7 (k7.val (.tail _ (.head _))).v (by omega) (R_Q (by rw [HV2.out]; exact hR1) (by omega) (by omega)))
      have HPW := Lib.hid (fun Y => pow04_any (-53) (by omega) (by omega) Y)
      have HMU := Lib.hid (fun Y u1 u2 x1 x2 => mul03_any u1 u2 (d2.v * ((xs.length + 4 : Nat) : Rat)) (pw (-53)) Y x1 x2 (R_Q (by rw [HV2.out]; exact hR2) (by omega) (by omega)))
      have hw1 : IntKind.i64.wrap ((xs.length : Int) + 4) = ((xs.length + 4 : Nat) : Int) := by rw [IntKind.wrap_i64]; omega
      have hw2 : (xs.length : Int) + 4 = ((xs.length + 4 : Nat) : Int) := by omega
      rw [← hw2] at HTI
      unfold dyV at HTI
      clear hb7 k7 hR1 hR2 hw1 hw2
      go_wp2_with fail
      refine HTI.out.mono ?_
      rintro e w8 ⟨⟨v, rfl, hv8⟩, hb8⟩
      obtain ⟨d8, A8, c8, rfl, ha8, -⟩ := hv8.a
      have K8 := Lib.hid (K7.out.call hb8)
      have HV8 := Lib.hid hv8
      clear hv8 ha8 hb8 b0 b1 b2
      unfold dyV at HV8 ⊢
      go_wp2_with fail
      refine (HPW.out _).mono ?_
      rintro e w9 ⟨⟨v, rfl, hv9⟩, hb9⟩
      obtain ⟨d9, A9, c9, rfl, ha9, -⟩ := hv9.a
      have K9 := Lib.hid (K8.out.call hb9)
      have HV8b := Lib.hid (HV8.out.below hb9)
      have HV9 := Lib.hid hv9
      clear hv9 ha9 hb9
      unfold dyV at HV9 ⊢
      go_wp2_with fail
      refine (HMU.out _ _ _ HV8b.out HV9.out).mono ?_
      rintro e w10 ⟨⟨v, rfl, hv⟩, hb10⟩
      obtain ⟨d4, A4, c4, rfl, ha4, hv4⟩ := hv.a
      have k10 := (K9.out.call hb10).push ha4
      obtain ⟨E, hE⟩ : ∃ E, E = w10.alloc (.cells #[.bool d4.neg, .slice A4 (nd d4.n).length c4, .int .i64 d4.e] 30) := ⟨_, rfl⟩
      rw [← hE] at k10
      have KE := Lib.hid k10
      have HE := Lib.hid hE; have HV4 := Lib.hid hv4
      have HRP : R 2148 2050 (d3.v * d3.v) := by rw [HV3.out]; exact R_mul HRN.out HRN.out
      have HRD : R 9000 9001 (d3.v * d3.v - d2.v) := R_sub (a := 9000) (b := 9000) (R_mono HRP (by omega) (by omega)) (by rw [HV2.out]; exact HRQ.out)
      have HM2 := Lib.hid (fun Y (h : Below E.heap.size E Y) => mul03_any _ _ _ _ Y ((k10.call h).val (.tail _ (.head _))).v ((k10.call h).val (.tail _ (.head _))).v (R_Q HRP (by omega) (by omega)))
      have HSB := Lib.hid (fun Y u (h : Below E.heap.size E Y) h' => sub03_any u _ (d3.v * d3.v) _ Y h' ((k10.call h).val (.tail _ (.tail _ (.head _)))).v (R_Q HRD (by omega) (by omega)))
      have HABS := Lib.hid (fun Y u h => abs03_any u (d3.v * d3.v - d2.v) Y h)
      have HCM := Lib.hid (fun Y u (h : Below E.heap.size E Y) h2 => cmp03_any u _ (ab (d3.v * d3.v - d2.v)) _ Y h2 ((k10.call h).val (.head _)).v)
      have hle : cmpQ (ab (d3.v * d3.v - d2.v)) d4.v ≤ 0 := by
        rw [cmpQ_le, hv4, HV3.out, HV2.out]; exact HNLAW.out
      have HKE := Lib.hid (fun Y (h : Below E.heap.size E Y) => And.intro ((KE.out.call h).box (.tail _ (.tail _ (.head _)))).c3 (And.intro ((KE.out.call h).box (.tail _ (.head _))).c3 (And.intro ((KE.out.call h).box (.head _)).c3 h)))
      have hcb : -1 ≤ cmpQ (ab (d3.v * d3.v - d2.v)) d4.v := by
        unfold cmpQ; split
        · omega
        · split <;> omega
      unfold dyV at HM2 HSB HCM ⊢
      clear hv ha4 hb10 k10 hE hv4 HRP HRD HV4 HNLAW HV1 HV2 HV3
      generalize cmpQ (ab (d3.v * d3.v - d2.v)) d4.v = cq at *
      go_wp2_with fail
      rw [← HE.out]
      generalize w10.heap.size = g4 at *
      generalize w6.heap.size = g3 at *
      generalize w5.heap.size = g2 at *
      go_region_held3 (fun Y => ((Y.cell? ⟨g2, 0, none⟩ = some (.bool d2.neg) ∧ Y.cell? ⟨g2, 1, none⟩ = some (.slice A2 (nd d2.n).length c2) ∧ Y.cell? ⟨g2, 2, none⟩ = some (.int .i64 d2.e)) ∧ (Y.cell? ⟨g3, 0, none⟩ = some (.bool d3.neg) ∧ Y.cell? ⟨g3, 1, none⟩ = some (.slice A3 (nd d3.n).length c3) ∧ Y.cell? ⟨g3, 2, none⟩ = some (.int .i64 d3.e)) ∧ (Y.cell? ⟨g4, 0, none⟩ = some (.bool d4.neg) ∧ Y.cell? ⟨g4, 1, none⟩ = some (.slice A4 (nd d4.n).length c4) ∧ Y.cell? ⟨g4, 2, none⟩ = some (.int .i64 d4.e)) ∧ Below E.heap.size E Y))
        ((refine HKE.out _ ?_; (repeat (first | assumption | exact Below.refl _ _ | refine Below.allocs ?_ _ | refine Below.drews ?_ | refine Below.chain ?_ (by assumption)))))
        (first
          | (go_at_call 25; (refine (HM2.out _ (by repeat (first | assumption | exact Below.refl _ _ | refine Below.allocs ?_ _ | refine Below.drews ?_ | refine Below.chain ?_ (by assumption)))).mono ?_); rintro e y5 ⟨⟨v, rfl, hmv⟩, hb5⟩; obtain ⟨d5, A5, c5, rfl, ha5, hv5⟩ := hmv.a; unfold dyV at *)
          | (go_at_call 28; (refine (HSB.out _ _ (by repeat (first | assumption | exact Below.refl _ _ | refine Below.allocs ?_ _ | refine Below.drews ?_ | refine Below.chain ?_ (by assumption))) (hmv.below (by repeat (first | assumption | exact Below.refl _ _ | refine Below.allocs ?_ _ | refine Below.drews ?_ | refine Below.chain ?_ (by assumption))))).mono ?_); rintro e y6 ⟨⟨v, rfl, hsv⟩, hb6⟩; obtain ⟨d6, A6, c6, rfl, ha6, hv6⟩ := hsv.a; unfold dyV at *)
          | (go_at_call 27; (refine (HABS.out _ _ (hsv.below (by repeat (first | assumption | exact Below.refl _ _ | refine Below.allocs ?_ _ | refine Below.drews ?_ | refine Below.chain ?_ (by assumption))))).mono ?_); rintro e y7 ⟨⟨v, rfl, hav⟩, hb7⟩; obtain ⟨d7, A7, c7, rfl, ha7, hv7⟩ := hav.a; unfold dyV at *)
          | (go_at_call 26; (refine (HCM.out _ _ (by repeat (first | assumption | exact Below.refl _ _ | refine Below.allocs ?_ _ | refine Below.drews ?_ | refine Below.chain ?_ (by assumption))) (hav.below (by repeat (first | assumption | exact Below.refl _ _ | refine Below.allocs ?_ _ | refine Below.drews ?_ | refine Below.chain ?_ (by assumption))))).mono ?_); rintro e y8 ⟨rfl, hb8⟩)
          | (go_at_call 11; (refine (HLV.out _).mono ?_); rintro e y9 ⟨rfl, hb9⟩; have hbE : Below E.heap.size E y9 := (Below.chain (by repeat (first | assumption | exact Below.refl _ _ | refine Below.allocs ?_ _ | refine Below.drews ?_ | refine Below.chain ?_ (by assumption))) hb9)))
      all_goals
        have HBE := Lib.hid (KE.out.call hbE).below
        go_wp2
        go_ret
        exact ⟨rfl, HBE.out⟩
end Go.Proofs.Ytfnhcgpdlhndhaa
