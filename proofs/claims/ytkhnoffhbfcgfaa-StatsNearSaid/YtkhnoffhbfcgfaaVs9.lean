/- The walk of StatsNear. -/
import Derived.Test.YtkhnoffhbfcgfaaVr9
import Derived.Test.YtkhnoffhbfcgfaaVj9
set_option linter.unusedVariables false
namespace Lev
theorem gramS_R {f : Fct} (h : f.ok = true) (n j : Nat) (hn : n ≤ 6) : R 2148 2060 (gramS f n j) := by
  unfold gramS
  exact R_mono (R_sum (t := fun k : Nat => gv (fun i => fv (getS f k i)) n j) (n + 1) (fun i _ => gv_R (fun k _ => R_fv (getS_fin h _ _)))) (by omega) (by omega)
end Lev
namespace Go.Proofs.Ytkhnoffhbfcgfaa
open Go.RowKit Go.Shelf Lev

attribute [local go_sem] run_store_float order_lt order_gt order_eq order_ne order_le order_ge flt_or_feq flt_or_feq'

set_option maxRecDepth 100000 in
set_option maxHeartbeats 4000000 in
theorem statsNear (f : Fct) (A : Option Addr) (c : Nat) (w : World) (hx : SlArg w A f.xs c) :
    Calls Try.prog 7 #[facV f.C A f.xs.length c f.R f.T] w fun e w' => e = .returned (.bool true) ∧ Below w.heap.size w w' := by
  have HLV := Lib.hid (fun W => live17 W)
  have k0 := ((KeepD.start w).more hx).pusho #[.int .i64 f.C, .slice A f.xs.length c, .int .i64 f.R, .int .i64 f.T] 24 (by decide)
  have K0 := Lib.hid k0
  have hl63 : f.xs.length ≤ 9223372036854775807 := Nat.le_trans hx.cap hx.room
  have hof := fun W h => sof_any f A c W h
  by_cases h60 : (60 : Int) < (f.xs.length : Int)
  · unfold facV
    clear hx k0 hof
    go_enter Try.func7, Try.ntmps7
    go_wp2_with fail
    refine (HLV.out _).mono ?_
    rintro e w1 ⟨rfl, hb⟩
    have HB := Lib.hid (K0.out.call hb).below
    clear hb
    go_wp2
    go_ret
    exact ⟨rfl, HB.out⟩
  · by_cases hE : stE f = 0
    · have hok : f.ok = true := by
        cases e : f.ok
        · rw [stE_no e] at hE; exact absurd hE (by decide)
        · rfl
      have hfree : 1 ≤ f.R - f.C := by
        by_cases h2 : f.R - f.C < 1
        · rw [stE_few hok h2] at hE; exact absurd hE (by decide)
        · omega
      have hc := ok_len hok
      obtain ⟨n, hn⟩ : ∃ n : Nat, f.C = (n : Int) := ⟨f.C.toNat, by omega⟩
      have hn6 : 1 ≤ n ∧ n ≤ 6 := by omega
      have hfa := st_facts hok hfree
      have hrho := getS_fin hok (n : Int) (n : Int)
      have hrho64 := getS_lt hx.reads.1 (n : Int) (n : Int)
      have r4 := total_law hok hn
      have r5 := rest_law hok hn
      have hPR := gramS_R hok n ((sizeI n).toNat - 1) hn6.2
      have hsz : 3 ≤ sizeI (n : Int) ∧ sizeI (n : Int) ≤ 28 := by
        have h : n = 1 ∨ n = 2 ∨ n = 3 ∨ n = 4 ∨ n = 5 ∨ n = 6 := by omega
        rcases h with e | e | e | e | e | e <;> rw [e] <;> decide
      have hfac := fun W h => factor08_any f A c W h hok n hn
      have hget := fun W h => rget_any f A c (n : Int) (n : Int) W h
      rw [stV_ok hE, hE] at hof
      obtain ⟨b1, b2⟩ : -9223372036854775808 ≤ f.R - f.C ∧ f.R - f.C < 9223372036854775808 := by omega
      have v1 : fin (stTot f) := hfa.2.2.2.2.2.2.2.2.2.2.2.1
      have v3 : stTot f < 18446744073709551616 := hfa.2.2.2.1
      have v4 : fin (stRest f) := hfa.2.2.2.2.2.2.2.2.2.2.1
      have v5 : stRest f < 18446744073709551616 := hfa.2.2.1
      unfold facV at hof hfac hget ⊢
      rw [hn] at hof hfac hget K0 ⊢
      obtain ⟨J, hJ⟩ : ∃ J : Nat, (sizeI (n : Int)).toNat = J + 1 := ⟨(sizeI (n : Int)).toNat - 1, by omega⟩
      rw [hJ, Nat.add_sub_cancel] at r4 hPR
      rw [hJ] at hfac
      have hJ28 : J < 28 := by omega
      generalize f.R - (n : Int) = free at *
      generalize hrr : getS f n n = rho at *
      generalize stVar f = v at *
      generalize stRest f = rest at *
      generalize stTot f = tot at *
      generalize stFit f = fit at *
      generalize hP : gramS f n J = P at *
      have HP := Lib.hid hP
      have HFT := Lib.hid (fun W => from03_any tot v3 v1 W)
      have HFR := Lib.hid (fun W => from03_any rho hrho64 hrho W)
      have HP53 := Lib.hid (fun W => pow04_any (-53) (by omega) (by omega) W)
      have HP1060 := Lib.hid (fun W => pow04_any (-1060) (by omega) (by omega) W)
      have s1 : R 2148 2050 (fv rho * fv rho) := R_mul (a := 1074) (b := 1025) (c := 1074) (d := 1025) (R_fv hrho) (R_fv hrho)
      have s2 : R 2148 2061 (fv tot - P) := R_sub (R_mono (R_fv v1) (by omega) (by omega)) hPR
      have s3 : R 2148 2070 (P * ((n + 3 : Nat) : Rat)) := R_mul (a := 2148) (b := 2060) (c := 0) (d := 10) hPR (R_nat (by rw [show (10 : Int) = ((10 : Nat) : Int) from rfl, pw_nat]; exact cast_lt.2 (by omega)))
      have s4 : R 2201 2071 (P * ((n + 3 : Nat) : Rat) * pw (-53)) := R_mul (a := 2148) (b := 2070) (c := 53) (d := 1) s3 (R_pw (by omega) (by omega))
      have s5 : R 2201 2072 (P * ((n + 3 : Nat) : Rat) * pw (-53) + pw (-1060)) := R_add s4 (R_pw (by omega) (by omega))
      have S1 := Lib.hid s1; have S2 := Lib.hid s2; have S3 := Lib.hid s3; have S4 := Lib.hid s4; have S5 := Lib.hid s5
      have hle : cmpQ (ab (fv tot - P)) (P * ((n + 3 : Nat) : Rat) * pw (-53) + pw (-1060)) ≤ 0 := by
        rw [cmpQ_le]; exact r4
      have HMU1 := Lib.hid (fun W u1 u2 h1 h2 => mul03_any u1 u2 (P * ((n + 3 : Nat) : Rat)) (pw (-53)) W h1 h2 (R_Q S4.out (by omega) (by omega)))
      have HAD1 := Lib.hid (fun W u1 u2 h1 h2 => add03_any u1 u2 (P * ((n + 3 : Nat) : Rat) * pw (-53)) (pw (-1060)) W h1 h2 (R_Q S5.out (by omega) (by omega)))
      have hti := fun W u1 h1 => times04_any u1 P (n + 3) W h1 (by omega) (R_Q S3.out (by omega) (by omega))
      rw [show ((n + 3 : Nat) : Int) = (n : Int) + 3 from by omega] at hti
      have HTI := Lib.hid hti
      have HMU2 := Lib.hid (fun W u1 u2 h1 h2 => mul03_any u1 u2 (fv rho) (fv rho) W h1 h2 (R_Q S1.out (by omega) (by omega)))
      have HSU := Lib.hid (fun W u1 u2 h1 h2 => sub03_any u1 u2 (fv tot) P W h1 h2 (R_Q S2.out (by omega) (by omega)))
      have HABS := Lib.hid (fun W u1 h1 => abs03_any u1 (fv tot - P) W h1)
      have HCM := Lib.hid (fun W u1 u2 h1 h2 => cmp03_any u1 u2 (ab (fv tot - P)) (P * ((n + 3 : Nat) : Rat) * pw (-53) + pw (-1060)) W h1 h2)
      have hwi := fun W u1 h1 => within04_any rest u1 (fv rho * fv rho) 1 W v5 v4 h1 (by omega) (R_mono S1.out (by omega) (by omega))
      rw [r5] at hwi
      have HWI := Lib.hid hwi
      generalize cmpQ (ab (fv tot - P)) (P * ((n + 3 : Nat) : Rat) * pw (-53) + pw (-1060)) = cq at *
      generalize ab (fv tot - P) = P1 at *
      generalize fv tot - P = P2 at *
      generalize fv rho * fv rho = P3 at *
      generalize P * ((n + 3 : Nat) : Rat) * pw (-53) + pw (-1060) = P4 at *
      generalize P * ((n + 3 : Nat) : Rat) * pw (-53) = P5 at *
      generalize P * ((n + 3 : Nat) : Rat) = P6 at *
      generalize fv rho = RF at *
      generalize fv tot = VF at *
      have HOF := Lib.hid hof; have HFAC := Lib.hid hfac; have HGET := Lib.hid hget
      have t0 : (((J + 1 : Nat) : Int) == 0) = false := by rw [beq_eq_false_iff_ne]; omega
      clear hx k0 hof hfac hget hE hok hfree hfa hrho hrho64 r4 r5 hPR hsz v1 v3 v4 v5 s1 s2 s3 s4 s5 hc hti hwi hP hrr hJ
      go_enter Try.func7, Try.ntmps7
      go_wp2_with fail
      refine (HOF.out _ (K0.out.arg (.head _))).mono ?_
      rintro e w1 ⟨rfl, hb⟩
      have K1 := Lib.hid ((K0.out.call hb).pusho #[.int .i64 free, .float .f64 rest, .float .f64 tot, .float .f64 v, .float .f64 fit] 28 (by decide))
      obtain ⟨r0, r1, r2, r3⟩ := (K1.out.other (.tail _ (.head _))).c4
      clear hb
      go_wp2_with fail
      refine (HFAC.out _ (K1.out.arg (.head _))).mono ?_
      rintro e w2 ⟨⟨B, o, c2, rfl, hd, ho, hv⟩, hb⟩
      have K2 := Lib.hid (K1.out.call hb)
      clear r0 r1 r2 r3
      obtain ⟨bg, og, rfl, _, _⟩ := hd.reads (by omega)
      have hJo : J < o.length := by omega
      obtain ⟨⟨a0, a1, a2⟩, hdy⟩ := hd.at hJo
      have hvJ := hv J hJo
      rw [lv_get hJo, HP.out] at hvJ
      generalize o[J] = x at *
      obtain ⟨d3, A3, c3⟩ := x
      dsimp only at a0 a1 a2 hdy hvJ
      have hJ1 : ((J + 1 : Nat) : Int) - 1 = (J : Int) := by omega
      have hJ2 : (J : Int) < ((J + 1 : Nat) : Int) := by omega
      have k3 := K2.out.push hdy
      have hcell := (k3.other (.head _)).cell 2
      obtain ⟨E3, hE3⟩ : ∃ E3, E3 = w2.alloc (.cells #[.bool d3.neg, .slice A3 (nd d3.n).length c3, .int .i64 d3.e] 46) := ⟨_, rfl⟩
      rw [← hE3] at k3
      obtain ⟨g3, hg3, k3⟩ := k3.name
      have K3 := Lib.hid k3
      have HE3 := Lib.hid hE3
      have HX3 := Lib.hid hvJ
      have HG3 := Lib.hid hg3
      replace hcell := (show _ = some (Value.float .f64 tot) from hcell)
      clear hd ho hv hb hdy hvJ k3 hE3 hg3 hJo
      go_wp2_with fail
      rw [← HE3.out, HG3.out]
      clear HE3 hcell a0 a1 a2 hJ1 hJ2
      refine (HFT.out _).mono ?_
      rintro e w4 ⟨⟨v, rfl, hv⟩, hb4⟩
      obtain ⟨d4, A4, c4, rfl, ha4, hv4⟩ := hv.a
      have k4 := (K3.out.call hb4).push ha4
      obtain ⟨E4, hE4⟩ : ∃ E4, E4 = w4.alloc (.cells #[.bool d4.neg, .slice A4 (nd d4.n).length c4, .int .i64 d4.e] 46) := ⟨_, rfl⟩
      rw [← hE4] at k4
      obtain ⟨g4, hg4, k4⟩ := k4.name
      have K4 := Lib.hid k4
      have HE4 := Lib.hid hE4
      have HX4 := Lib.hid hv4
      have HG4 := Lib.hid hg4
      unfold dyV
      clear hv ha4 hb4 k4 hE4 hv4 hg4
      obtain ⟨a0, a1, a2⟩ := (K4.out.box (.tail _ (.head _))).c3
      obtain ⟨r0, r1, r2, r3⟩ := (K4.out.other (.tail _ (.head _))).c4
      rw [HE4.out] at a0 a1 a2 r0 r1 r2 r3
      go_wp2_with fail
      rw [← HE4.out, HG4.out]
      clear HE4
      have HD4 := Lib.hid (show DyV E4 (dyV d3 A3 c3) P by have := (K4.out.val (.tail _ (.head _))).v; rw [HX3.out] at this; exact this)
      unfold dyV at HD4
      clear a0 a1 a2 r0 r1 r2 r3
      refine (HTI.out _ _ HD4.out).mono ?_
      rintro e w5 ⟨⟨v, rfl, hv⟩, hb5⟩
      have K5 := Lib.hid (K4.out.call hb5)
      obtain ⟨d5, A5, c5, rfl, ha5, hv5⟩ := hv.a
      have HV5 := Lib.hid hv
      unfold dyV at HV5 ⊢
      clear hv ha5 hv5 hb5
      go_wp2_with fail
      refine (HP53.out _).mono ?_
      rintro e w6 ⟨⟨v, rfl, hv⟩, hb6⟩
      have K6 := Lib.hid (K5.out.call hb6)
      have hk5 := HV5.out.below hb6
      clear HV5
      have HV5 := Lib.hid hk5
      clear hk5
      obtain ⟨d6, A6, c6, rfl, ha6, hv6⟩ := hv.a
      have HV6 := Lib.hid hv
      unfold dyV at HV6 ⊢
      clear hv ha6 hv6 hb6
      go_wp2_with fail
      refine (HMU1.out _ _ _ HV5.out HV6.out).mono ?_
      rintro e w7 ⟨⟨v, rfl, hv⟩, hb7⟩
      have K7 := Lib.hid (K6.out.call hb7)
      obtain ⟨d7, A7, c7, rfl, ha7, hv7⟩ := hv.a
      have HV7 := Lib.hid hv
      unfold dyV at HV7 ⊢
      clear hv ha7 hv7 hb7
      go_wp2_with fail
      refine (HP1060.out _).mono ?_
      rintro e w8 ⟨⟨v, rfl, hv⟩, hb8⟩
      have K8 := Lib.hid (K7.out.call hb8)
      have hk7 := HV7.out.below hb8
      clear HV7
      have HV7 := Lib.hid hk7
      clear hk7
      obtain ⟨d8, A8, c8, rfl, ha8, hv8⟩ := hv.a
      have HV8 := Lib.hid hv
      unfold dyV at HV8 ⊢
      clear hv ha8 hv8 hb8
      go_wp2_with fail
      refine (HAD1.out _ _ _ HV7.out HV8.out).mono ?_
      rintro e w9 ⟨⟨v, rfl, hv⟩, hb9⟩
      obtain ⟨d9, A9, c9, rfl, ha9, hv9⟩ := hv.a
      have k9 := (K8.out.call hb9).push ha9
      obtain ⟨E9, hE9⟩ : ∃ E9, E9 = w9.alloc (.cells #[.bool d9.neg, .slice A9 (nd d9.n).length c9, .int .i64 d9.e] 46) := ⟨_, rfl⟩
      rw [← hE9] at k9
      obtain ⟨g9, hg9, k9⟩ := k9.name
      have K9 := Lib.hid k9
      have HE9 := Lib.hid hE9
      have HX9 := Lib.hid hv9
      have HG9 := Lib.hid hg9
      unfold dyV
      clear hv ha9 hb9 k9 hE9 hv9 hg9
      obtain ⟨r0, r1, r2, r3⟩ := (K9.out.other (.tail _ (.head _))).c4
      rw [HE9.out] at r0 r1 r2 r3
      go_wp2_with fail
      rw [← HE9.out, HG9.out]
      clear HE9
      refine (HGET.out _ (K9.out.arg (.head _))).mono ?_
      rintro e w10 ⟨rfl, hb10⟩
      have K10 := Lib.hid (K9.out.call hb10)
      clear hb10 r0 r1 r2 r3
      go_wp2_with fail
      refine (HFR.out _).mono ?_
      rintro e w11 ⟨⟨v, rfl, hv⟩, hb11⟩
      obtain ⟨d11, A11, c11, rfl, ha11, hv11⟩ := hv.a
      have k11 := (K10.out.call hb11).push ha11
      obtain ⟨E11, hE11⟩ : ∃ E11, E11 = w11.alloc (.cells #[.bool d11.neg, .slice A11 (nd d11.n).length c11, .int .i64 d11.e] 46) := ⟨_, rfl⟩
      rw [← hE11] at k11
      obtain ⟨g11, hg11, k11⟩ := k11.name
      have K11 := Lib.hid k11
      have HE11 := Lib.hid hE11
      have HX11 := Lib.hid hv11
      have HG11 := Lib.hid hg11
      unfold dyV
      clear hv ha11 hb11 k11 hE11 hv11 hg11
      go_wp2_with fail
      rw [← HE11.out, HG11.out]
      clear HE11
      have HNS := Lib.hid (fun Y (h : Below E11.heap.size E11 Y) => HSU.out Y _ _ (by have := ((K11.out.call h).val (.tail _ (.tail _ (.head _)))).v; rw [HX4.out] at this; exact this) (by have := ((K11.out.call h).val (.tail _ (.tail _ (.tail _ (.head _))))).v; rw [HX3.out] at this; exact this))
      have HNM := Lib.hid (fun Y (h : Below E11.heap.size E11 Y) => HMU2.out Y _ _ (by have := ((K11.out.call h).val (.head _)).v; rw [HX11.out] at this; exact this) (by have := ((K11.out.call h).val (.head _)).v; rw [HX11.out] at this; exact this))
      have HNC := Lib.hid (fun Y u1 (h : Below E11.heap.size E11 Y) h1 => HCM.out Y u1 _ h1 (by have := ((K11.out.call h).val (.tail _ (.head _))).v; rw [HX9.out] at this; exact this))
      unfold dyV at HNS HNM HNC
      have HKE := Lib.hid (fun Y (h : Below E11.heap.size E11 Y) => And.intro (show Y.cell? ⟨w1.heap.size, 1, none⟩ = some (.float .f64 rest) from ((K11.out.call h).other (.head _)).cell 1) (And.intro ((K11.out.call h).box (.head _)).c3 (And.intro ((K11.out.call h).box (.tail _ (.head _))).c3 (And.intro ((K11.out.call h).box (.tail _ (.tail _ (.head _)))).c3 (And.intro ((K11.out.call h).box (.tail _ (.tail _ (.tail _ (.head _))))).c3 h)))))
      go_region_held3 (fun Y => (Y.cell? ⟨w1.heap.size, 1, none⟩ = some (.float .f64 rest) ∧ (Y.cell? ⟨g11, 0, none⟩ = some (.bool d11.neg) ∧ Y.cell? ⟨g11, 1, none⟩ = some (.slice A11 (nd d11.n).length c11) ∧ Y.cell? ⟨g11, 2, none⟩ = some (.int .i64 d11.e)) ∧ (Y.cell? ⟨g9, 0, none⟩ = some (.bool d9.neg) ∧ Y.cell? ⟨g9, 1, none⟩ = some (.slice A9 (nd d9.n).length c9) ∧ Y.cell? ⟨g9, 2, none⟩ = some (.int .i64 d9.e)) ∧ (Y.cell? ⟨g4, 0, none⟩ = some (.bool d4.neg) ∧ Y.cell? ⟨g4, 1, none⟩ = some (.slice A4 (nd d4.n).length c4) ∧ Y.cell? ⟨g4, 2, none⟩ = some (.int .i64 d4.e)) ∧ (Y.cell? ⟨g3, 0, none⟩ = some (.bool d3.neg) ∧ Y.cell? ⟨g3, 1, none⟩ = some (.slice A3 (nd d3.n).length c3) ∧ Y.cell? ⟨g3, 2, none⟩ = some (.int .i64 d3.e)) ∧ Below E11.heap.size E11 Y))
        ((refine HKE.out _ ?_; (repeat (first | assumption | exact Below.refl _ _ | refine Below.allocs ?_ _ | refine Below.drews ?_ | refine Below.chain ?_ (by assumption)))))
        (first
          | (go_at_call 29; (refine (HNS.out _ (by repeat (first | assumption | exact Below.refl _ _ | refine Below.allocs ?_ _ | refine Below.drews ?_ | refine Below.chain ?_ (by assumption)))).mono ?_); rintro e y22 ⟨⟨v, rfl, hsv⟩, hb22⟩; obtain ⟨d22, A22, c22, rfl, ha22, hv22⟩ := hsv.a; unfold dyV at *)
          | (go_at_call 28; (refine (HABS.out _ _ (hsv.below (by repeat (first | assumption | exact Below.refl _ _ | refine Below.allocs ?_ _ | refine Below.drews ?_ | refine Below.chain ?_ (by assumption))))).mono ?_); rintro e y23 ⟨⟨v, rfl, hav⟩, hb23⟩; obtain ⟨d23, A23, c23, rfl, ha23, hv23⟩ := hav.a; unfold dyV at *)
          | (go_at_call 27; (refine (HNC.out _ _ (by repeat (first | assumption | exact Below.refl _ _ | refine Below.allocs ?_ _ | refine Below.drews ?_ | refine Below.chain ?_ (by assumption))) (hav.below (by repeat (first | assumption | exact Below.refl _ _ | refine Below.allocs ?_ _ | refine Below.drews ?_ | refine Below.chain ?_ (by assumption))))).mono ?_); rintro e y24 ⟨rfl, hb24⟩)
          | (go_at_call 23; (refine (HNM.out _ (by repeat (first | assumption | exact Below.refl _ _ | refine Below.allocs ?_ _ | refine Below.drews ?_ | refine Below.chain ?_ (by assumption)))).mono ?_); rintro e y25 ⟨⟨v, rfl, hmv⟩, hb25⟩; obtain ⟨d25, A25, c25, rfl, ha25, hv25⟩ := hmv.a; unfold dyV at *)
          | (go_at_call 30; (refine (HWI.out _ _ (hmv.below (by repeat (first | assumption | exact Below.refl _ _ | refine Below.allocs ?_ _ | refine Below.drews ?_ | refine Below.chain ?_ (by assumption))))).mono ?_); rintro e y26 ⟨rfl, hb26⟩)
          | (go_at_call 9; (refine (HLV.out _).mono ?_); rintro e y27 ⟨rfl, hb27⟩; have hbE : Below E11.heap.size E11 y27 := (Below.chain (by repeat (first | assumption | exact Below.refl _ _ | refine Below.allocs ?_ _ | refine Below.drews ?_ | refine Below.chain ?_ (by assumption))) hb27)))
      all_goals
        have HBE := Lib.hid (K11.out.call hbE).below
        go_wp2
        go_ret
        exact ⟨rfl, HBE.out⟩
    · have hb := stV_bad hE
      rw [hb] at hof
      have hE2 : stE f = 1 ∨ stE f = 5 := by
        cases e : f.ok
        · exact .inl (stE_no e)
        · by_cases h2 : f.R - f.C < 1
          · exact .inr (stE_few e h2)
          · exact absurd (stE_ok e (by omega)) hE
      unfold facV at hof ⊢
      rcases hE2 with h | h
      all_goals
        rw [h] at hof
        have HOF := Lib.hid hof
        clear hx k0 hof hb hE h
        go_enter Try.func7, Try.ntmps7
        go_wp2_with fail
        refine (HOF.out _ (K0.out.arg (.head _))).mono ?_
        rintro e w1 ⟨rfl, hb⟩
        have K1 := Lib.hid ((K0.out.call hb).pusho #[.int .i64 0, .float .f64 0, .float .f64 0, .float .f64 0, .float .f64 0] 28 (by decide))
        clear hb
        go_wp2_with fail
        refine (HLV.out _).mono ?_
        rintro e w4 ⟨rfl, hb⟩
        have HB := Lib.hid (K1.out.call hb).below
        clear hb
        go_wp2
        go_ret
        exact ⟨rfl, HB.out⟩
end Go.Proofs.Ytkhnoffhbfcgfaa
