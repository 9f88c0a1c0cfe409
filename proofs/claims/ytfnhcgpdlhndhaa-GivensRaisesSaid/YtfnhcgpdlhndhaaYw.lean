/- The walks of GivensKeeps, GivensBack, GivensRaises. -/
import Derived.Test.YtfnhcgpdlhndhaaYv
set_option linter.unusedVariables false
namespace Lev
theorem fin_cn {u x : Nat} (h : cn u = x) (hf : fin x) : u = x := by
  have hI := INF_eq
  unfold cn at h
  split at h
  · rename_i hn
    subst h
    exact absurd hf (by decide)
  · exact h
theorem flt0 {c : Nat} (hf : fin c) (hs : sg c = false) (h : pw (-28) ≤ fv c) : flt 0 c = true := by
  have hI := INF_eq
  unfold fin at hf
  unfold flt
  rw [decide_eq_true_eq]
  refine ⟨by decide, by omega, fv_lt.1 ?_⟩
  rw [fv_zero]
  have := pw_pos (-28)
  grind
theorem fle_one {c : Nat} (hf : fin c) (hs : sg c = false) (h : rg c ≤ oneF) : fle c 4607182418800017408 = true := by
  have hI := INF_eq
  have h1 := oneF_eq
  unfold fin at hf
  unfold fle
  rw [decide_eq_true_eq]
  refine ⟨by omega, by decide, ?_⟩
  unfold ord
  rw [hs, if_neg (by decide), show sg 4607182418800017408 = false from by decide, if_neg (by decide), show rg 4607182418800017408 = 4607182418800017408 from by decide]
  omega
theorem R_a1 {x y : Rat} (hx : R 9000 8000 x) (hy : R 9000 8000 y) : R 9000 9000 (ab x + ab y) := R_mono (R_add (R_ab hx) (R_ab hy)) (by omega) (by omega)
theorem R_2' {x y z u : Nat} (hx : fin x) (hy : fin y) (hz : fin z) (hu : fin u) : R 9000 8000 (fv x * fv y + fv z * fv u) := R_mono (R_add (R_mul (R_fv hx) (R_fv hy)) (R_mul (R_fv hz) (R_fv hu))) (by omega) (by omega)
end Lev
namespace Go.Proofs.Ytfnhcgpdlhndhaa
open Go.RowKit Go.Shelf Lev

theorem KeepD.under {w W : World} (h : KeepD w w [] [] []) (hb : Below w.heap.size w W) : KeepD w W [] [] [] := h.call hb
theorem turn_is {c s x y v z : Nat} {η : Rat} (t : Turned c s x y η v z) (w : World) :
    Calls Try.prog 35 #[.float .f64 c, .float .f64 s, .float .f64 x, .float .f64 y] w fun e w' => e = .returned (.tuple #[.float .f64 v, .float .f64 z]) ∧ Below w.heap.size w w' := by
  refine (gturn_any c s x y w).mono ?_
  rintro e w' ⟨⟨u1, u2, rfl, e1, e2, _, _⟩, hb⟩
  obtain ⟨t1, t2⟩ := turn_eq t
  rw [t1] at e1
  rw [t2] at e2
  rw [fin_cn e1 t.fv', fin_cn e2 t.fw]
  exact ⟨rfl, hb⟩
theorem down_is {c s p q v z : Nat} (t : RaiseLaw c s p q v z) (w : World) :
    Calls Try.prog 39 #[.float .f64 c, .float .f64 s, .float .f64 p, .float .f64 q] w fun e w' => e = .returned (.tuple #[.float .f64 v, .float .f64 z]) ∧ Below w.heap.size w w' := by
  refine (gdown_any c s p q w).mono ?_
  rintro e w' ⟨⟨u1, u2, rfl, e1, e2, _, _⟩, n, rfl⟩
  obtain ⟨t1, t2⟩ := down_eq t
  rw [t1] at e1
  rw [t2] at e2
  rw [fin_cn e1 t.fv', fin_cn e2 t.fw]
  exact ⟨rfl, (Below.refl _ _).drewN n⟩

attribute [local go_sem] order_lt order_gt order_eq order_ne order_le order_ge flt_or_feq flt_or_feq'

set_option maxRecDepth 100000 in
set_option maxHeartbeats 4000000 in
theorem givensKeeps (f g x y : Nat) (w : World) (hfg : f < 18446744073709551616 ∧ g < 18446744073709551616) (hxy : x < 18446744073709551616 ∧ y < 18446744073709551616) :
    Calls Try.prog 8 #[.agg #[.float .f64 f, .float .f64 g], .agg #[.float .f64 x, .float .f64 y]] w fun e w' => e = .returned (.bool true) ∧ Below w.heap.size w w' := by
  have HLV := Lib.hid (fun W => live06 W)
  have HO := fun W => gof_any f g hfg.1 hfg.2 W
  have HIX := Lib.hid (fun W => rin_any x hxy.1 W)
  have HIY := Lib.hid (fun W => rin_any y hxy.2 W)
  rcases ofT_cases f g with h | ⟨c, s, r, h, ff, fg, law⟩
  · rw [h] at HO
    have HO := Lib.hid HO
    clear h hfg hxy HIX HIY
    go_enter Try.func8, Try.ntmps8
    go_wp2_with fail
    obtain ⟨W, hW⟩ : ∃ W, W = (w.alloc (.cells #[.float .f64 f, .float .f64 g] 55)).alloc (.cells #[.float .f64 x, .float .f64 y] 55) := ⟨_, rfl⟩
    obtain ⟨b1, b2, hb, _⟩ := boxes2 hW
    rw [← hW]
    obtain ⟨q0, q1⟩ := b1.c2'
    obtain ⟨q2, q3⟩ := b2.c2'
    have B0 := Lib.hid hb
    clear hW b1 b2 hb
    go_quiet (fail)
    have K0 := Lib.hid ((KeepD.start w).under (B0.out.drewN nq))
    clear B0 q0 q1 q2 q3
    go_wp2_with fail
    refine (HO.out _).mono ?_
    rintro e w1 ⟨rfl, hb1⟩
    have K1 := Lib.hid (K0.out.call hb1)
    clear hb1
    go_wp2_with fail
    refine (HLV.out _).mono ?_
    rintro e w9 ⟨rfl, hb9⟩
    have HB := Lib.hid (K1.out.call hb9).below
    clear hb9
    go_wp2
    go_ret
    exact ⟨rfl, HB.out⟩
  · rw [h] at HO
    have HO := Lib.hid HO
    cases hix : inS x
    · rw [hix] at HIX
      clear h hfg hxy law HIY
      go_enter Try.func8, Try.ntmps8
      go_wp2_with fail
      obtain ⟨W, hW⟩ : ∃ W, W = (w.alloc (.cells #[.float .f64 f, .float .f64 g] 55)).alloc (.cells #[.float .f64 x, .float .f64 y] 55) := ⟨_, rfl⟩
      obtain ⟨b1, b2, hb, _⟩ := boxes2 hW
      rw [← hW]
      obtain ⟨q0, q1⟩ := b1.c2'
      obtain ⟨q2, q3⟩ := b2.c2'
      have B0 := Lib.hid hb
      clear hW b1 b2 hb
      go_quiet (fail)
      have K0 := Lib.hid ((KeepD.start w).under (B0.out.drewN nq))
      clear B0 q0 q1 q2 q3
      go_wp2_with fail
      refine (HO.out _).mono ?_
      rintro e w1 ⟨rfl, hb1⟩
      have K1 := Lib.hid (K0.out.call hb1)
      clear hb1
      go_wp2_with fail
      refine (HIX.out _).mono ?_
      rintro e w' ⟨rfl, rfl⟩
      go_wp2_with fail
      refine (HLV.out _).mono ?_
      rintro e w9 ⟨rfl, hb9⟩
      have HB := Lib.hid (K1.out.call hb9).below
      clear hb9
      go_wp2
      go_ret
      exact ⟨rfl, HB.out⟩
    · rw [hix] at HIX
      cases hiy : inS y
      · rw [hiy] at HIY
        clear h hfg hxy law
        go_enter Try.func8, Try.ntmps8
        go_wp2_with fail
        obtain ⟨W, hW⟩ : ∃ W, W = (w.alloc (.cells #[.float .f64 f, .float .f64 g] 55)).alloc (.cells #[.float .f64 x, .float .f64 y] 55) := ⟨_, rfl⟩
        obtain ⟨b1, b2, hb, _⟩ := boxes2 hW
        rw [← hW]
        obtain ⟨q0, q1⟩ := b1.c2'
        obtain ⟨q2, q3⟩ := b2.c2'
        have B0 := Lib.hid hb
        clear hW b1 b2 hb
        go_quiet (fail)
        have K0 := Lib.hid ((KeepD.start w).under (B0.out.drewN nq))
        clear B0 q0 q1 q2 q3
        go_wp2_with fail
        refine (HO.out _).mono ?_
        rintro e w1 ⟨rfl, hb1⟩
        have K1 := Lib.hid (K0.out.call hb1)
        clear hb1
        go_wp2_with fail
        refine (HIX.out _).mono ?_
        rintro e w' ⟨rfl, rfl⟩
        go_wp2_with fail
        refine (HIY.out _).mono ?_
        rintro e w' ⟨rfl, rfl⟩
        go_wp2_with fail
        refine (HLV.out _).mono ?_
        rintro e w9 ⟨rfl, hb9⟩
        have HB := Lib.hid (K1.out.call hb9).below
        clear hb9
        go_wp2
        go_ret
        exact ⟨rfl, HB.out⟩
      · rw [hiy] at HIY
        have hk := keep_law law.u hix hiy
        obtain ⟨η, hη, _⟩ := in_size hix hiy
        have t := turned law.u.fc law.u.fs law.u.c1 law.u.s1 (in_600 hix).1 (in_600 hiy).1 (in_600 hix).2 (in_600 hiy).2 hη
        have HTU := Lib.hid (fun W => turn_is t W)
        have fx := (in_600 hix).1
        have fy := (in_600 hiy).1
        have u := law.u
        have c64 := law.c64
        have s64 := law.s64
        clear t
        generalize fadd (fmul c x) (fmul s y) = v at *
        generalize fsub (fmul c y) (fmul s x) = z at *
        have HPS := Lib.hid (fun W => pair06_any x x y y hxy.1 hxy.1 hxy.2 hxy.2 fx fx fy fy W)
        have HPV := Lib.hid (fun W => pair06_any v v z z hk.v64 hk.v64 hk.w64 hk.w64 hk.fv' hk.fv' hk.fw hk.fw W)
        have HPW := Lib.hid (fun W => pow04_any (-1070) (by omega) (by omega) W)
        have HP1 := Lib.hid (fun W => pair06_any c x 0 0 c64 hxy.1 (by decide) (by decide) u.fc fx fin_zero fin_zero W)
        have HP2 := Lib.hid (fun W => pair06_any s y 0 0 s64 hxy.2 (by decide) (by decide) u.fs fy fin_zero fin_zero W)
        have HP3 := Lib.hid (fun W => pair06_any c y 0 0 c64 hxy.2 (by decide) (by decide) u.fc fy fin_zero fin_zero W)
        have HP4 := Lib.hid (fun W => pair06_any s x 0 0 s64 hxy.1 (by decide) (by decide) u.fs fx fin_zero fin_zero W)
        have HPA := Lib.hid (fun W => pair06_any c x s y c64 hxy.1 s64 hxy.2 u.fc fx u.fs fy W)
        have HPB := Lib.hid (fun W => pair06_any c y (fneg s) x c64 hxy.2 (fneg_lt s) hxy.1 u.fc fy (fneg_fin u.fs) fx W)
        have HEV := Lib.hid (fun W => exact06_any v hk.v64 hk.fv' W)
        have HEZ := Lib.hid (fun W => exact06_any z hk.w64 hk.fw W)
        have r1 := R_2 fx fx fy fy
        have r2 := R_2 hk.fv' hk.fv' hk.fw hk.fw
        have r3 := R_2' u.fc fx fin_zero fin_zero
        have r4 := R_2' u.fs fy fin_zero fin_zero
        have r5 := R_2' u.fc fy fin_zero fin_zero
        have r6 := R_2' u.fs fx fin_zero fin_zero
        have r7 := R_2 u.fc fx u.fs fy
        have r8 := R_2 u.fc fy (fneg_fin u.fs) fx
        have r9 := R_f hk.fv'
        have r10 := R_f hk.fw
        have z0 : ∀ a : Rat, a + fv 0 * fv 0 = a := fun a => by rw [fv_zero]; grind
        have y1 : decide (ab (fv v * fv v + fv z * fv z - (fv x * fv x + fv y * fv y)) ≤ (fv x * fv x + fv y * fv y) * ((32 : Nat) : Rat) * pw (-53) + 0) = true := by
          rw [decide_eq_true_eq, uu_eq]
          have := hk.size
          rw [show ((32 : Nat) : Rat) = 32 from rfl]
          grind
        have y2 : decide (ab (fv v - (fv c * fv x + fv s * fv y)) ≤ (ab (fv c * fv x + fv 0 * fv 0) + ab (fv s * fv y + fv 0 * fv 0)) * ((4 : Nat) : Rat) * pw (-53) + pw (-1070)) = true := by
          rw [decide_eq_true_eq, uu_eq, z0, z0]
          exact hk.one
        have y3 : decide (ab (fv z - (fv c * fv y + fv (fneg s) * fv x)) ≤ (ab (fv c * fv y + fv 0 * fv 0) + ab (fv s * fv x + fv 0 * fv 0)) * ((4 : Nat) : Rat) * pw (-53) + pw (-1070)) = true := by
          rw [decide_eq_true_eq, uu_eq, z0, z0, fv_fneg, show fv c * fv y + -fv s * fv x = fv c * fv y - fv s * fv x from by grind]
          exact hk.two
        have hneg := fun (W : World) => run_negF (P := Try.prog) s W
        rw [neg_bits s64] at hneg
        have HAB1 := Lib.hid (fun W v' h => abs03_any v' (fv c * fv x + fv 0 * fv 0) W h)
        have HAB2 := Lib.hid (fun W v' h => abs03_any v' (fv s * fv y + fv 0 * fv 0) W h)
        have HAB3 := Lib.hid (fun W v' h => abs03_any v' (fv c * fv y + fv 0 * fv 0) W h)
        have HAB4 := Lib.hid (fun W v' h => abs03_any v' (fv s * fv x + fv 0 * fv 0) W h)
        have HAD1 := Lib.hid (fun W u1 u2 h1 h2 => add03_any u1 u2 (ab (fv c * fv x + fv 0 * fv 0)) (ab (fv s * fv y + fv 0 * fv 0)) W h1 h2 (R_Q (R_a1 r3 r4) (by omega) (by omega)))
        have HAD2 := Lib.hid (fun W u1 u2 h1 h2 => add03_any u1 u2 (ab (fv c * fv y + fv 0 * fv 0)) (ab (fv s * fv x + fv 0 * fv 0)) W h1 h2 (R_Q (R_a1 r5 r6) (by omega) (by omega)))
        have r11 := R_a1 r3 r4
        have r12 := R_a1 r5 r6
        have R1 := Lib.hid r1; have R2 := Lib.hid r2; have R7 := Lib.hid r7; have R8 := Lib.hid r8; have R9 := Lib.hid r9; have R10 := Lib.hid r10; have R11 := Lib.hid r11; have R12 := Lib.hid r12
        have Y1 := Lib.hid y1; have Y2 := Lib.hid y2; have Y3 := Lib.hid y3
        generalize fneg s = s' at *
        generalize fv c * fv x + fv 0 * fv 0 = P1 at *
        generalize fv s * fv y + fv 0 * fv 0 = P2 at *
        generalize fv c * fv y + fv 0 * fv 0 = P3 at *
        generalize fv s * fv x + fv 0 * fv 0 = P4 at *
        generalize fv v * fv v + fv z * fv z = VV at *
        generalize fv x * fv x + fv y * fv y = XX at *
        generalize fv c * fv x + fv s * fv y = CV at *
        generalize fv c * fv y + fv s' * fv x = CW at *
        generalize fv v = VF at *
        generalize fv z = ZF at *
        clear h hfg hxy law u hk fx fy hix hiy hη c64 s64 r1 r2 r3 r4 r5 r6 r7 r8 r9 r10 r11 r12 y1 y2 y3 z0
        go_enter Try.func8, Try.ntmps8
        go_wp2_with fail
        obtain ⟨W, hW⟩ : ∃ W, W = (w.alloc (.cells #[.float .f64 f, .float .f64 g] 55)).alloc (.cells #[.float .f64 x, .float .f64 y] 55) := ⟨_, rfl⟩
        obtain ⟨b1, b2, hb, _⟩ := boxes2 hW
        rw [← hW]
        obtain ⟨q0, q1⟩ := b1.c2'
        obtain ⟨q2, q3⟩ := b2.c2'
        have B0 := Lib.hid hb
        clear hW b1 b2 hb
        go_quiet (fail)
        have K0 := Lib.hid ((KeepD.start w).under (B0.out.drewN nq))
        clear B0 q0 q1 q2 q3
        go_wp2_with fail
        refine (HO.out _).mono ?_
        rintro e w1 ⟨rfl, hb1⟩
        have K1 := Lib.hid (K0.out.call hb1)
        clear hb1
        go_wp2_with fail
        refine (HIX.out _).mono ?_
        rintro e w' ⟨rfl, rfl⟩
        go_wp2_with fail
        refine (HIY.out _).mono ?_
        rintro e w' ⟨rfl, rfl⟩
        go_wp2_with fail
        refine (HTU.out _).mono ?_
        rintro e w2 ⟨rfl, hb2⟩
        have K2 := Lib.hid (K1.out.call hb2)
        clear hb2
        go_wp2_with fail
        refine (HPS.out _).mono ?_
        rintro e w3 ⟨⟨v, rfl, hv⟩, hb3⟩
        obtain ⟨d3, A3, c3, rfl, ha3, hv3⟩ := hv.a
        have k3 := (K2.out.call hb3).push ha3
        obtain ⟨E3, hE3⟩ : ∃ E3, E3 = w3.alloc (.cells #[.bool d3.neg, .slice A3 (nd d3.n).length c3, .int .i64 d3.e] 30) := ⟨_, rfl⟩
        rw [← hE3] at k3
        obtain ⟨g3, hg3, k3⟩ := k3.name
        have K3 := Lib.hid k3
        have HE3 := Lib.hid hE3
        have HX3 := Lib.hid hv3
        have HG3 := Lib.hid hg3
        unfold dyV
        clear hv ha3 hb3 k3 hE3 hv3 hg3
        go_wp2_with fail
        rw [← HE3.out, HG3.out]
        clear HE3
        have HNE := fun Y u1 (h : Below E3.heap.size E3 Y) h' => near06_any u1 _ _ _ 32 VV XX XX 0 Y h' (by have := ((K3.out.call h).val (.head _)).v; rw [HX3.out] at this; exact this) (by have := ((K3.out.call h).val (.head _)).v; rw [HX3.out] at this; exact this) (DyV.zero Y) (by omega) R2.out R1.out R1.out (R_zero _ _)
        rw [Y1.out] at HNE
        unfold dyV zDy at HNE
        have HNE := Lib.hid HNE
        have HKE := Lib.hid (fun Y (h : Below E3.heap.size E3 Y) => And.intro ((K3.out.call h).box (.head _)).c3 (h))
        go_cut [70] (fun s70 wx => s70 = .bool false ∧ KeepD w wx [(g3, d3, A3, c3)] [] [])
        case first =>
          go_region_held3 (fun Y => ((Y.cell? ⟨g3, 0, none⟩ = some (.bool d3.neg) ∧ Y.cell? ⟨g3, 1, none⟩ = some (.slice A3 (nd d3.n).length c3) ∧ Y.cell? ⟨g3, 2, none⟩ = some (.int .i64 d3.e)) ∧ Below E3.heap.size E3 Y))
            ((refine HKE.out _ ?_; (repeat (first | assumption | exact Below.refl _ _ | refine Below.allocs ?_ _ | refine Below.drews ?_ | refine Below.chain ?_ (by assumption)))))
            (first
              | (go_at_call 32; (refine (HPV.out _).mono ?_); rintro e y5 ⟨⟨v, rfl, hpv⟩, hb5⟩; obtain ⟨d5, A5, c5, rfl, ha5, hv5⟩ := hpv.a; unfold dyV at *)
              | (go_at_call 31; (refine (HNE.out _ _ (by repeat (first | assumption | exact Below.refl _ _ | refine Below.allocs ?_ _ | refine Below.drews ?_ | refine Below.chain ?_ (by assumption))) (hpv.below (by repeat (first | assumption | exact Below.refl _ _ | refine Below.allocs ?_ _ | refine Below.drews ?_ | refine Below.chain ?_ (by assumption))))).mono ?_); rintro e y6 ⟨rfl, hb6⟩; have hbE : Below E3.heap.size E3 y6 := (Below.chain (by repeat (first | assumption | exact Below.refl _ _ | refine Below.allocs ?_ _ | refine Below.drews ?_ | refine Below.chain ?_ (by assumption))) hb6)))
          all_goals
            have HK := Lib.hid (K3.out.call hbE)
            go_wp2_with fail
            go_meet
            exact ⟨rfl, HK.out⟩
        case rest =>
          obtain ⟨rfl, hK⟩ := hcut
          have K4 := Lib.hid hK
          clear hK HKE HNE
          go_wp2_with fail
          refine (HPW.out _).mono ?_
          rintro e w5 ⟨⟨v, rfl, hv⟩, hb5⟩
          obtain ⟨d5, A5, c5, rfl, ha5, hv5⟩ := hv.a
          have k5 := (K4.out.call hb5).push ha5
          obtain ⟨E5, hE5⟩ : ∃ E5, E5 = w5.alloc (.cells #[.bool d5.neg, .slice A5 (nd d5.n).length c5, .int .i64 d5.e] 30) := ⟨_, rfl⟩
          rw [← hE5] at k5
          obtain ⟨g5, hg5, k5⟩ := k5.name
          have K5 := Lib.hid k5
          have HE5 := Lib.hid hE5
          have HX5 := Lib.hid hv5
          have HG5 := Lib.hid hg5
          unfold dyV
          clear hv ha5 hb5 k5 hE5 hv5 hg5
          go_wp2_with fail
          rw [← HE5.out, HG5.out]
          clear HE5
          refine (HP1.out _).mono ?_
          rintro e w6 ⟨⟨v, rfl, hv⟩, hb6⟩
          have K6 := Lib.hid (K5.out.call hb6)
          obtain ⟨d6, A6, c6, rfl, ha6, hv6⟩ := hv.a
          have HV6 := Lib.hid hv
          unfold dyV at HV6 ⊢
          clear hv ha6 hv6 hb6
          go_wp2_with fail
          refine (HAB1.out _ _ HV6.out).mono ?_
          rintro e w7 ⟨⟨v, rfl, hv⟩, hb7⟩
          have K7 := Lib.hid (K6.out.call hb7)
          obtain ⟨d7, A7, c7, rfl, ha7, hv7⟩ := hv.a
          have HV7 := Lib.hid hv
          unfold dyV at HV7 ⊢
          clear hv ha7 hv7 hb7
          go_wp2_with fail
          refine (HP2.out _).mono ?_
          rintro e w8 ⟨⟨v, rfl, hv⟩, hb8⟩
          have K8 := Lib.hid (K7.out.call hb8)
          have hk7 := HV7.out.below hb8
          clear HV7
          have HV7 := Lib.hid hk7
          clear hk7
          obtain ⟨d8, A8, c8, rfl, ha8, hv8⟩ := hv.a
          have HV8 := Lib.hid hv
          unfold dyV at HV8 ⊢
          clear hv ha8 hv8 hb8
          go_wp2_with fail
          refine (HAB2.out _ _ HV8.out).mono ?_
          rintro e w9 ⟨⟨v, rfl, hv⟩, hb9⟩
          have K9 := Lib.hid (K8.out.call hb9)
          have hk7 := HV7.out.below hb9
          clear HV7
          have HV7 := Lib.hid hk7
          clear hk7
          obtain ⟨d9, A9, c9, rfl, ha9, hv9⟩ := hv.a
          have HV9 := Lib.hid hv
          unfold dyV at HV9 ⊢
          clear hv ha9 hv9 hb9
          go_wp2_with fail
          refine (HAD1.out _ _ _ HV7.out HV9.out).mono ?_
          rintro e w10 ⟨⟨v, rfl, hv⟩, hb10⟩
          obtain ⟨d10, A10, c10, rfl, ha10, hv10⟩ := hv.a
          have k10 := (K9.out.call hb10).push ha10
          obtain ⟨E10, hE10⟩ : ∃ E10, E10 = w10.alloc (.cells #[.bool d10.neg, .slice A10 (nd d10.n).length c10, .int .i64 d10.e] 30) := ⟨_, rfl⟩
          rw [← hE10] at k10
          obtain ⟨g10, hg10, k10⟩ := k10.name
          have K10 := Lib.hid k10
          have HE10 := Lib.hid hE10
          have HX10 := Lib.hid hv10
          have HG10 := Lib.hid hg10
          unfold dyV
          clear hv ha10 hb10 k10 hE10 hv10 hg10
          go_wp2_with fail
          rw [← HE10.out, HG10.out]
          clear HE10
          refine (HP3.out _).mono ?_
          rintro e w11 ⟨⟨v, rfl, hv⟩, hb11⟩
          have K11 := Lib.hid (K10.out.call hb11)
          obtain ⟨d11, A11, c11, rfl, ha11, hv11⟩ := hv.a
          have HV11 := Lib.hid hv
          unfold dyV at HV11 ⊢
          clear hv ha11 hv11 hb11
          go_wp2_with fail
          refine (HAB3.out _ _ HV11.out).mono ?_
          rintro e w12 ⟨⟨v, rfl, hv⟩, hb12⟩
          have K12 := Lib.hid (K11.out.call hb12)
          obtain ⟨d12, A12, c12, rfl, ha12, hv12⟩ := hv.a
          have HV12 := Lib.hid hv
          unfold dyV at HV12 ⊢
          clear hv ha12 hv12 hb12
          go_wp2_with fail
          refine (HP4.out _).mono ?_
          rintro e w13 ⟨⟨v, rfl, hv⟩, hb13⟩
          have K13 := Lib.hid (K12.out.call hb13)
          have hk12 := HV12.out.below hb13
          clear HV12
          have HV12 := Lib.hid hk12
          clear hk12
          obtain ⟨d13, A13, c13, rfl, ha13, hv13⟩ := hv.a
          have HV13 := Lib.hid hv
          unfold dyV at HV13 ⊢
          clear hv ha13 hv13 hb13
          go_wp2_with fail
          refine (HAB4.out _ _ HV13.out).mono ?_
          rintro e w14 ⟨⟨v, rfl, hv⟩, hb14⟩
          have K14 := Lib.hid (K13.out.call hb14)
          have hk12 := HV12.out.below hb14
          clear HV12
          have HV12 := Lib.hid hk12
          clear hk12
          obtain ⟨d14, A14, c14, rfl, ha14, hv14⟩ := hv.a
          have HV14 := Lib.hid hv
          unfold dyV at HV14 ⊢
          clear hv ha14 hv14 hb14
          go_wp2_with fail
          refine (HAD2.out _ _ _ HV12.out HV14.out).mono ?_
          rintro e w15 ⟨⟨v, rfl, hv⟩, hb15⟩
          obtain ⟨d15, A15, c15, rfl, ha15, hv15⟩ := hv.a
          have k15 := (K14.out.call hb15).push ha15
          obtain ⟨E15, hE15⟩ : ∃ E15, E15 = w15.alloc (.cells #[.bool d15.neg, .slice A15 (nd d15.n).length c15, .int .i64 d15.e] 30) := ⟨_, rfl⟩
          rw [← hE15] at k15
          obtain ⟨g15, hg15, k15⟩ := k15.name
          have K15 := Lib.hid k15
          have HE15 := Lib.hid hE15
          have HX15 := Lib.hid hv15
          have HG15 := Lib.hid hg15
          unfold dyV
          clear hv ha15 hb15 k15 hE15 hv15 hg15
          go_wp2_with fail
          rw [← HE15.out, HG15.out]
          clear HE15
          have HNE := fun Y u1 u2 (h : Below E15.heap.size E15 Y) h1 h2 => near06_any u1 u2 _ _ 4 VF CV (ab P1 + ab P2) (pw (-1070)) Y h1 h2 (by have := ((K15.out.call h).val (.tail _ (.head _))).v; rw [HX10.out] at this; exact this) (by have := ((K15.out.call h).val (.tail _ (.tail _ (.head _)))).v; rw [HX5.out] at this; exact this) (by omega) R9.out R7.out R11.out (R_pw (by omega) (by omega))
          have HNF := fun Y u1 u2 (h : Below E15.heap.size E15 Y) h1 h2 => near06_any u1 u2 _ _ 4 ZF CW (ab P3 + ab P4) (pw (-1070)) Y h1 h2 (by have := ((K15.out.call h).val (.head _)).v; rw [HX15.out] at this; exact this) (by have := ((K15.out.call h).val (.tail _ (.tail _ (.head _)))).v; rw [HX5.out] at this; exact this) (by omega) R10.out R8.out R12.out (R_pw (by omega) (by omega))
          rw [Y2.out] at HNE
          rw [Y3.out] at HNF
          unfold dyV at HNE HNF
          have HNE := Lib.hid HNE; have HNF := Lib.hid HNF
          have HKE := Lib.hid (fun Y (h : Below E15.heap.size E15 Y) => And.intro ((K15.out.call h).box (.head _)).c3 (And.intro ((K15.out.call h).box (.tail _ (.head _))).c3 (And.intro ((K15.out.call h).box (.tail _ (.tail _ (.head _)))).c3 (h))))
          go_region_held3 (fun Y => ((Y.cell? ⟨g15, 0, none⟩ = some (.bool d15.neg) ∧ Y.cell? ⟨g15, 1, none⟩ = some (.slice A15 (nd d15.n).length c15) ∧ Y.cell? ⟨g15, 2, none⟩ = some (.int .i64 d15.e)) ∧ (Y.cell? ⟨g10, 0, none⟩ = some (.bool d10.neg) ∧ Y.cell? ⟨g10, 1, none⟩ = some (.slice A10 (nd d10.n).length c10) ∧ Y.cell? ⟨g10, 2, none⟩ = some (.int .i64 d10.e)) ∧ (Y.cell? ⟨g5, 0, none⟩ = some (.bool d5.neg) ∧ Y.cell? ⟨g5, 1, none⟩ = some (.slice A5 (nd d5.n).length c5) ∧ Y.cell? ⟨g5, 2, none⟩ = some (.int .i64 d5.e)) ∧ Below E15.heap.size E15 Y))
            ((refine HKE.out _ ?_; (repeat (first | assumption | exact Below.refl _ _ | refine Below.allocs ?_ _ | refine Below.drews ?_ | refine Below.chain ?_ (by assumption)))))
            (first
              | (go_at_call 33; (with_reducible refine (HEV.out _).mono ?_); rintro e y21 ⟨⟨v, rfl, hev⟩, hb21⟩; obtain ⟨d21, A21, c21, rfl, ha21, hv21⟩ := hev.a; unfold dyV at *)
              | (go_at_call 33; (with_reducible refine (HEZ.out _).mono ?_); rintro e y22 ⟨⟨v, rfl, hez⟩, hb22⟩; obtain ⟨d22, A22, c22, rfl, ha22, hv22⟩ := hez.a; unfold dyV at *)
              | (go_at_call 32; (with_reducible refine (HPA.out _).mono ?_); rintro e y23 ⟨⟨v, rfl, hpa⟩, hb23⟩; obtain ⟨d23, A23, c23, rfl, ha23, hv23⟩ := hpa.a; unfold dyV at *)
              | (go_at_call 32; (with_reducible refine (HPB.out _).mono ?_); rintro e y24 ⟨⟨v, rfl, hpb⟩, hb24⟩; obtain ⟨d24, A24, c24, rfl, ha24, hv24⟩ := hpb.a; unfold dyV at *)
              | (go_at_call 31; (refine (HNF.out _ _ _ (by repeat (first | assumption | exact Below.refl _ _ | refine Below.allocs ?_ _ | refine Below.drews ?_ | refine Below.chain ?_ (by assumption))) (hez.below (by repeat (first | assumption | exact Below.refl _ _ | refine Below.allocs ?_ _ | refine Below.drews ?_ | refine Below.chain ?_ (by assumption)))) (hpb.below (by repeat (first | assumption | exact Below.refl _ _ | refine Below.allocs ?_ _ | refine Below.drews ?_ | refine Below.chain ?_ (by assumption))))).mono ?_); rintro e y26 ⟨rfl, hb26⟩)
              | (go_at_call 31; (refine (HNE.out _ _ _ (by repeat (first | assumption | exact Below.refl _ _ | refine Below.allocs ?_ _ | refine Below.drews ?_ | refine Below.chain ?_ (by assumption))) (hev.below (by repeat (first | assumption | exact Below.refl _ _ | refine Below.allocs ?_ _ | refine Below.drews ?_ | refine Below.chain ?_ (by assumption)))) (hpa.below (by repeat (first | assumption | exact Below.refl _ _ | refine Below.allocs ?_ _ | refine Below.drews ?_ | refine Below.chain ?_ (by assumption))))).mono ?_); rintro e y25 ⟨rfl, hb25⟩)
              | (go_at_call 30; (refine (HLV.out _).mono ?_); rintro e y27 ⟨rfl, hb27⟩; have hbE : Below E15.heap.size E15 y27 := (Below.chain (by repeat (first | assumption | exact Below.refl _ _ | refine Below.allocs ?_ _ | refine Below.drews ?_ | refine Below.chain ?_ (by assumption))) hb27)))
          all_goals
            have HBE := Lib.hid (K15.out.call hbE).below
            go_wp2
            go_ret
            exact ⟨rfl, HBE.out⟩

set_option maxRecDepth 100000 in
set_option maxHeartbeats 4000000 in
theorem givensBack (f g x y : Nat) (w : World) (hfg : f < 18446744073709551616 ∧ g < 18446744073709551616) (hxy : x < 18446744073709551616 ∧ y < 18446744073709551616) :
    Calls Try.prog 9 #[.agg #[.float .f64 f, .float .f64 g], .agg #[.float .f64 x, .float .f64 y]] w fun e w' => e = .returned (.bool true) ∧ Below w.heap.size w w' := by
  have HLV := Lib.hid (fun W => live06 W)
  have HO := fun W => gof_any f g hfg.1 hfg.2 W
  have HIX := Lib.hid (fun W => rin_any x hxy.1 W)
  have HIY := Lib.hid (fun W => rin_any y hxy.2 W)
  rcases ofT_cases f g with h | ⟨c, s, r, h, ff, fg, law⟩
  · rw [h] at HO
    have HO := Lib.hid HO
    clear h hfg hxy HIX HIY
    go_enter Try.func9, Try.ntmps9
    go_wp2_with fail
    obtain ⟨W, hW⟩ : ∃ W, W = (w.alloc (.cells #[.float .f64 f, .float .f64 g] 55)).alloc (.cells #[.float .f64 x, .float .f64 y] 55) := ⟨_, rfl⟩
    obtain ⟨b1, b2, hb, _⟩ := boxes2 hW
    rw [← hW]
    obtain ⟨q0, q1⟩ := b1.c2'
    obtain ⟨q2, q3⟩ := b2.c2'
    have B0 := Lib.hid hb
    clear hW b1 b2 hb
    go_quiet (fail)
    have K0 := Lib.hid ((KeepD.start w).under (B0.out.drewN nq))
    clear B0 q0 q1 q2 q3
    go_wp2_with fail
    refine (HO.out _).mono ?_
    rintro e w1 ⟨rfl, hb1⟩
    have K1 := Lib.hid (K0.out.call hb1)
    clear hb1
    go_wp2_with fail
    refine (HLV.out _).mono ?_
    rintro e w9 ⟨rfl, hb9⟩
    have HB := Lib.hid (K1.out.call hb9).below
    clear hb9
    go_wp2
    go_ret
    exact ⟨rfl, HB.out⟩
  · rw [h] at HO
    have HO := Lib.hid HO
    cases hix : inS x
    · rw [hix] at HIX
      clear h hfg hxy law HIY
      go_enter Try.func9, Try.ntmps9
      go_wp2_with fail
      obtain ⟨W, hW⟩ : ∃ W, W = (w.alloc (.cells #[.float .f64 f, .float .f64 g] 55)).alloc (.cells #[.float .f64 x, .float .f64 y] 55) := ⟨_, rfl⟩
      obtain ⟨b1, b2, hb, _⟩ := boxes2 hW
      rw [← hW]
      obtain ⟨q0, q1⟩ := b1.c2'
      obtain ⟨q2, q3⟩ := b2.c2'
      have B0 := Lib.hid hb
      clear hW b1 b2 hb
      go_quiet (fail)
      have K0 := Lib.hid ((KeepD.start w).under (B0.out.drewN nq))
      clear B0 q0 q1 q2 q3
      go_wp2_with fail
      refine (HO.out _).mono ?_
      rintro e w1 ⟨rfl, hb1⟩
      have K1 := Lib.hid (K0.out.call hb1)
      clear hb1
      go_wp2_with fail
      refine (HIX.out _).mono ?_
      rintro e w' ⟨rfl, rfl⟩
      go_wp2_with fail
      refine (HLV.out _).mono ?_
      rintro e w9 ⟨rfl, hb9⟩
      have HB := Lib.hid (K1.out.call hb9).below
      clear hb9
      go_wp2
      go_ret
      exact ⟨rfl, HB.out⟩
    · rw [hix] at HIX
      cases hiy : inS y
      · rw [hiy] at HIY
        clear h hfg hxy law
        go_enter Try.func9, Try.ntmps9
        go_wp2_with fail
        obtain ⟨W, hW⟩ : ∃ W, W = (w.alloc (.cells #[.float .f64 f, .float .f64 g] 55)).alloc (.cells #[.float .f64 x, .float .f64 y] 55) := ⟨_, rfl⟩
        obtain ⟨b1, b2, hb, _⟩ := boxes2 hW
        rw [← hW]
        obtain ⟨q0, q1⟩ := b1.c2'
        obtain ⟨q2, q3⟩ := b2.c2'
        have B0 := Lib.hid hb
        clear hW b1 b2 hb
        go_quiet (fail)
        have K0 := Lib.hid ((KeepD.start w).under (B0.out.drewN nq))
        clear B0 q0 q1 q2 q3
        go_wp2_with fail
        refine (HO.out _).mono ?_
        rintro e w1 ⟨rfl, hb1⟩
        have K1 := Lib.hid (K0.out.call hb1)
        clear hb1
        go_wp2_with fail
        refine (HIX.out _).mono ?_
        rintro e w' ⟨rfl, rfl⟩
        go_wp2_with fail
        refine (HIY.out _).mono ?_
        rintro e w' ⟨rfl, rfl⟩
        go_wp2_with fail
        refine (HLV.out _).mono ?_
        rintro e w9 ⟨rfl, hb9⟩
        have HB := Lib.hid (K1.out.call hb9).below
        clear hb9
        go_wp2
        go_ret
        exact ⟨rfl, HB.out⟩
      · rw [hiy] at HIY
        have hv : fadd (fmul c x) (fmul s y) = fadd (fmul c x) (fmul s y) := rfl
        have hz : fsub (fmul c y) (fmul s x) = fsub (fmul c y) (fmul s x) := rfl
        obtain ⟨hk, t2⟩ := back_law law.u hix hiy hv hz
        obtain ⟨η, hη, _⟩ := in_size hix hiy
        have t := turned law.u.fc law.u.fs law.u.c1 law.u.s1 (in_600 hix).1 (in_600 hiy).1 (in_600 hix).2 (in_600 hiy).2 hη
        have HTU := Lib.hid (fun W => turn_is t W)
        have HTV := Lib.hid (fun W => turn_is t2 W)
        have fx := (in_600 hix).1
        have fy := (in_600 hiy).1
        have s64 := law.s64
        clear t t2 hv hz
        generalize fadd (fmul c x) (fmul s y) = v at *
        generalize fsub (fmul c y) (fmul s x) = z at *
        generalize fadd (fmul c v) (fmul (fneg s) z) = p at *
        generalize fsub (fmul c z) (fmul (fneg s) v) = q at *
        have HSZ := Lib.hid (fun W => sizes06_any x y hxy.1 hxy.2 fx fy W)
        have HEP := Lib.hid (fun W => exact06_any p hk.p64 hk.fp W)
        have HEX := Lib.hid (fun W => exact06_any x hxy.1 fx W)
        have HEQ := Lib.hid (fun W => exact06_any q hk.q64 hk.fq W)
        have HEY := Lib.hid (fun W => exact06_any y hxy.2 fy W)
        have r1 := R_f hk.fp
        have r2 := R_f fx
        have r3 := R_f hk.fq
        have r4 := R_f fy
        have r5 : R 9000 9000 (ab (fv x) + ab (fv y)) := R_a1 (R_mono (R_fv fx) (by omega) (by omega)) (R_mono (R_fv fy) (by omega) (by omega))
        have y1 : decide (ab (fv p - fv x) ≤ (ab (fv x) + ab (fv y)) * ((32 : Nat) : Rat) * pw (-53) + 0) = true := by
          rw [decide_eq_true_eq, uu_eq]
          have := hk.px
          rw [show ((32 : Nat) : Rat) = 32 from rfl]
          grind
        have y2 : decide (ab (fv q - fv y) ≤ (ab (fv x) + ab (fv y)) * ((32 : Nat) : Rat) * pw (-53) + 0) = true := by
          rw [decide_eq_true_eq, uu_eq]
          have := hk.qy
          rw [show ((32 : Nat) : Rat) = 32 from rfl]
          grind
        have hneg := fun (W : World) => run_negF (P := Try.prog) s W
        rw [neg_bits s64] at hneg
        have R1 := Lib.hid r1; have R2 := Lib.hid r2; have R3 := Lib.hid r3; have R4 := Lib.hid r4; have R5 := Lib.hid r5
        have Y1 := Lib.hid y1; have Y2 := Lib.hid y2
        generalize fneg s = s' at *
        generalize ab (fv x) + ab (fv y) = SZ at *
        generalize fv p = PF at *
        generalize fv q = QF at *
        generalize fv x = XF at *
        generalize fv y = YF at *
        clear h hfg hxy law hk fx fy hix hiy hη s64 r1 r2 r3 r4 r5 y1 y2
        go_enter Try.func9, Try.ntmps9
        go_wp2_with fail
        obtain ⟨W, hW⟩ : ∃ W, W = (w.alloc (.cells #[.float .f64 f, .float .f64 g] 55)).alloc (.cells #[.float .f64 x, .float .f64 y] 55) := ⟨_, rfl⟩
        obtain ⟨b1, b2, hb, _⟩ := boxes2 hW
        rw [← hW]
        obtain ⟨q0, q1⟩ := b1.c2'
        obtain ⟨q2, q3⟩ := b2.c2'
        have B0 := Lib.hid hb
        clear hW b1 b2 hb
        go_quiet (fail)
        have K0 := Lib.hid ((KeepD.start w).under (B0.out.drewN nq))
        clear B0 q0 q1 q2 q3
        go_wp2_with fail
        refine (HO.out _).mono ?_
        rintro e w1 ⟨rfl, hb1⟩
        have K1 := Lib.hid (K0.out.call hb1)
        clear hb1
        go_wp2_with fail
        refine (HIX.out _).mono ?_
        rintro e w' ⟨rfl, rfl⟩
        go_wp2_with fail
        refine (HIY.out _).mono ?_
        rintro e w' ⟨rfl, rfl⟩
        go_wp2_with fail
        refine (HTU.out _).mono ?_
        rintro e w2 ⟨rfl, hb2⟩
        have K2 := Lib.hid (K1.out.call hb2)
        clear hb2
        go_wp2_with fail
        refine (HTV.out _).mono ?_
        rintro e w3 ⟨rfl, hb3⟩
        have K3 := Lib.hid (K2.out.call hb3)
        clear hb3
        go_wp2_with fail
        refine (HSZ.out _).mono ?_
        rintro e w4 ⟨⟨v, rfl, hv⟩, hb4⟩
        obtain ⟨d4, A4, c4, rfl, ha4, hv4⟩ := hv.a
        have k4 := (K3.out.call hb4).push ha4
        obtain ⟨E4, hE4⟩ : ∃ E4, E4 = w4.alloc (.cells #[.bool d4.neg, .slice A4 (nd d4.n).length c4, .int .i64 d4.e] 30) := ⟨_, rfl⟩
        rw [← hE4] at k4
        obtain ⟨g4, hg4, k4⟩ := k4.name
        have K4 := Lib.hid k4
        have HE4 := Lib.hid hE4
        have HX4 := Lib.hid hv4
        have HG4 := Lib.hid hg4
        unfold dyV
        clear hv ha4 hb4 k4 hE4 hv4 hg4
        go_wp2_with fail
        rw [← HE4.out, HG4.out]
        clear HE4
        have HNE := fun Y u1 u2 (h : Below E4.heap.size E4 Y) h1 h2 => near06_any u1 u2 _ _ 32 PF XF SZ 0 Y h1 h2 (by have := ((K4.out.call h).val (.head _)).v; rw [HX4.out] at this; exact this) (DyV.zero Y) (by omega) R1.out R2.out R5.out (R_zero _ _)
        have HNF := fun Y u1 u2 (h : Below E4.heap.size E4 Y) h1 h2 => near06_any u1 u2 _ _ 32 QF YF SZ 0 Y h1 h2 (by have := ((K4.out.call h).val (.head _)).v; rw [HX4.out] at this; exact this) (DyV.zero Y) (by omega) R3.out R4.out R5.out (R_zero _ _)
        rw [Y1.out] at HNE
        rw [Y2.out] at HNF
        unfold dyV zDy at HNE HNF
        have HNE := Lib.hid HNE; have HNF := Lib.hid HNF
        have HKE := Lib.hid (fun Y (h : Below E4.heap.size E4 Y) => And.intro ((K4.out.call h).box (.head _)).c3 (h))
        go_region_held3 (fun Y => ((Y.cell? ⟨g4, 0, none⟩ = some (.bool d4.neg) ∧ Y.cell? ⟨g4, 1, none⟩ = some (.slice A4 (nd d4.n).length c4) ∧ Y.cell? ⟨g4, 2, none⟩ = some (.int .i64 d4.e)) ∧ Below E4.heap.size E4 Y))
          ((refine HKE.out _ ?_; (repeat (first | assumption | exact Below.refl _ _ | refine Below.allocs ?_ _ | refine Below.drews ?_ | refine Below.chain ?_ (by assumption)))))
          (first
            | (go_at_call 33; (with_reducible refine (HEP.out _).mono ?_); rintro e y21 ⟨⟨v, rfl, hep⟩, hb21⟩; obtain ⟨d21, A21, c21, rfl, ha21, hv21⟩ := hep.a; unfold dyV at *)
            | (go_at_call 33; (with_reducible refine (HEX.out _).mono ?_); rintro e y22 ⟨⟨v, rfl, hex⟩, hb22⟩; obtain ⟨d22, A22, c22, rfl, ha22, hv22⟩ := hex.a; unfold dyV at *)
            | (go_at_call 33; (with_reducible refine (HEQ.out _).mono ?_); rintro e y23 ⟨⟨v, rfl, heq⟩, hb23⟩; obtain ⟨d23, A23, c23, rfl, ha23, hv23⟩ := heq.a; unfold dyV at *)
            | (go_at_call 33; (with_reducible refine (HEY.out _).mono ?_); rintro e y24 ⟨⟨v, rfl, hey⟩, hb24⟩; obtain ⟨d24, A24, c24, rfl, ha24, hv24⟩ := hey.a; unfold dyV at *)
            | (go_at_call 31; (refine (HNF.out _ _ _ (by repeat (first | assumption | exact Below.refl _ _ | refine Below.allocs ?_ _ | refine Below.drews ?_ | refine Below.chain ?_ (by assumption))) (heq.below (by repeat (first | assumption | exact Below.refl _ _ | refine Below.allocs ?_ _ | refine Below.drews ?_ | refine Below.chain ?_ (by assumption)))) (hey.below (by repeat (first | assumption | exact Below.refl _ _ | refine Below.allocs ?_ _ | refine Below.drews ?_ | refine Below.chain ?_ (by assumption))))).mono ?_); rintro e y26 ⟨rfl, hb26⟩)
            | (go_at_call 31; (refine (HNE.out _ _ _ (by repeat (first | assumption | exact Below.refl _ _ | refine Below.allocs ?_ _ | refine Below.drews ?_ | refine Below.chain ?_ (by assumption))) (hep.below (by repeat (first | assumption | exact Below.refl _ _ | refine Below.allocs ?_ _ | refine Below.drews ?_ | refine Below.chain ?_ (by assumption)))) (hex.below (by repeat (first | assumption | exact Below.refl _ _ | refine Below.allocs ?_ _ | refine Below.drews ?_ | refine Below.chain ?_ (by assumption))))).mono ?_); rintro e y25 ⟨rfl, hb25⟩)
            | (go_at_call 30; (refine (HLV.out _).mono ?_); rintro e y27 ⟨rfl, hb27⟩; have hbE : Below E4.heap.size E4 y27 := (Below.chain (by repeat (first | assumption | exact Below.refl _ _ | refine Below.allocs ?_ _ | refine Below.drews ?_ | refine Below.chain ?_ (by assumption))) hb27)))
        all_goals
          have HBE := Lib.hid (K4.out.call hbE).below
          go_wp2
          go_ret
          exact ⟨rfl, HBE.out⟩

set_option maxRecDepth 100000 in
set_option maxHeartbeats 4000000 in
theorem givensRaises (f g x y : Nat) (w : World) (hfg : f < 18446744073709551616 ∧ g < 18446744073709551616) (hxy : x < 18446744073709551616 ∧ y < 18446744073709551616) :
    Calls Try.prog 10 #[.agg #[.float .f64 f, .float .f64 g], .agg #[.float .f64 x, .float .f64 y]] w fun e w' => e = .returned (.bool true) ∧ Below w.heap.size w w' := by
  have HLV := Lib.hid (fun W => live06 W)
  have HO := fun W => ghyper_any f g hfg.1 hfg.2 W
  have HIF := Lib.hid (fun W => rin_any f hfg.1 W)
  have HIG := Lib.hid (fun W => rin_any g hfg.2 W)
  have HIX := Lib.hid (fun W => rin_any x hxy.1 W)
  have HIY := Lib.hid (fun W => rin_any y hxy.2 W)
  rcases hypT_cases f g with h | ⟨c, s, h, law⟩
  · rw [h] at HO
    have HO := Lib.hid HO
    clear h hfg hxy HIX HIY HIF HIG
    go_enter Try.func10, Try.ntmps10
    go_wp2_with fail
    obtain ⟨W, hW⟩ : ∃ W, W = (w.alloc (.cells #[.float .f64 f, .float .f64 g] 55)).alloc (.cells #[.float .f64 x, .float .f64 y] 55) := ⟨_, rfl⟩
    obtain ⟨b1, b2, hb, _⟩ := boxes2 hW
    rw [← hW]
    obtain ⟨q0, q1⟩ := b1.c2'
    obtain ⟨q2, q3⟩ := b2.c2'
    have B0 := Lib.hid hb
    clear hW b1 b2 hb
    go_quiet (fail)
    have K0 := Lib.hid ((KeepD.start w).under (B0.out.drewN nq))
    clear B0 q0 q1 q2 q3
    go_wp2_with fail
    refine (HO.out _).mono ?_
    rintro e w1 ⟨rfl, hb1⟩
    have K1 := Lib.hid (K0.out.call hb1)
    clear hb1
    go_wp2_with fail
    refine (HLV.out _).mono ?_
    rintro e w9 ⟨rfl, hb9⟩
    have HB := Lib.hid (K1.out.call hb9).below
    clear hb9
    go_wp2
    go_ret
    exact ⟨rfl, HB.out⟩
  · rw [h] at HO
    have HO := Lib.hid HO
    cases hif : inS f
    · rw [hif] at HIF
      clear h hfg hxy law
      go_enter Try.func10, Try.ntmps10
      go_wp2_with fail
      obtain ⟨W, hW⟩ : ∃ W, W = (w.alloc (.cells #[.float .f64 f, .float .f64 g] 55)).alloc (.cells #[.float .f64 x, .float .f64 y] 55) := ⟨_, rfl⟩
      obtain ⟨b1, b2, hb, _⟩ := boxes2 hW
      rw [← hW]
      obtain ⟨q0, q1⟩ := b1.c2'
      obtain ⟨q2, q3⟩ := b2.c2'
      have B0 := Lib.hid hb
      clear hW b1 b2 hb
      go_quiet (fail)
      have K0 := Lib.hid ((KeepD.start w).under (B0.out.drewN nq))
      clear B0 q0 q1 q2 q3
      go_wp2_with fail
      refine (HO.out _).mono ?_
      rintro e w1 ⟨rfl, hb1⟩
      have K1 := Lib.hid (K0.out.call hb1)
      clear hb1
      go_wp2_with fail
      refine (HIF.out _).mono ?_
      rintro e w' ⟨rfl, rfl⟩
      go_wp2_with fail
      refine (HLV.out _).mono ?_
      rintro e w9 ⟨rfl, hb9⟩
      have HB := Lib.hid (K1.out.call hb9).below
      clear hb9
      go_wp2
      go_ret
      exact ⟨rfl, HB.out⟩
    · rw [hif] at HIF
      cases hig : inS g
      · rw [hig] at HIG
        clear h hfg hxy law
        go_enter Try.func10, Try.ntmps10
        go_wp2_with fail
        obtain ⟨W, hW⟩ : ∃ W, W = (w.alloc (.cells #[.float .f64 f, .float .f64 g] 55)).alloc (.cells #[.float .f64 x, .float .f64 y] 55) := ⟨_, rfl⟩
        obtain ⟨b1, b2, hb, _⟩ := boxes2 hW
        rw [← hW]
        obtain ⟨q0, q1⟩ := b1.c2'
        obtain ⟨q2, q3⟩ := b2.c2'
        have B0 := Lib.hid hb
        clear hW b1 b2 hb
        go_quiet (fail)
        have K0 := Lib.hid ((KeepD.start w).under (B0.out.drewN nq))
        clear B0 q0 q1 q2 q3
        go_wp2_with fail
        refine (HO.out _).mono ?_
        rintro e w1 ⟨rfl, hb1⟩
        have K1 := Lib.hid (K0.out.call hb1)
        clear hb1
        go_wp2_with fail
        refine (HIF.out _).mono ?_
        rintro e w' ⟨rfl, rfl⟩
        go_wp2_with fail
        refine (HIG.out _).mono ?_
        rintro e w' ⟨rfl, rfl⟩
        go_wp2_with fail
        refine (HLV.out _).mono ?_
        rintro e w9 ⟨rfl, hb9⟩
        have HB := Lib.hid (K1.out.call hb9).below
        clear hb9
        go_wp2
        go_ret
        exact ⟨rfl, HB.out⟩
      · rw [hig] at HIG
        cases hix : inS x
        · rw [hix] at HIX
          clear h hfg hxy law
          go_enter Try.func10, Try.ntmps10
          go_wp2_with fail
          obtain ⟨W, hW⟩ : ∃ W, W = (w.alloc (.cells #[.float .f64 f, .float .f64 g] 55)).alloc (.cells #[.float .f64 x, .float .f64 y] 55) := ⟨_, rfl⟩
          obtain ⟨b1, b2, hb, _⟩ := boxes2 hW
          rw [← hW]
          obtain ⟨q0, q1⟩ := b1.c2'
          obtain ⟨q2, q3⟩ := b2.c2'
          have B0 := Lib.hid hb
          clear hW b1 b2 hb
          go_quiet (fail)
          have K0 := Lib.hid ((KeepD.start w).under (B0.out.drewN nq))
          clear B0 q0 q1 q2 q3
          go_wp2_with fail
          refine (HO.out _).mono ?_
          rintro e w1 ⟨rfl, hb1⟩
          have K1 := Lib.hid (K0.out.call hb1)
          clear hb1
          go_wp2_with fail
          refine (HIF.out _).mono ?_
          rintro e w' ⟨rfl, rfl⟩
          go_wp2_with fail
          refine (HIG.out _).mono ?_
          rintro e w' ⟨rfl, rfl⟩
          go_wp2_with fail
          refine (HIX.out _).mono ?_
          rintro e w' ⟨rfl, rfl⟩
          go_wp2_with fail
          refine (HLV.out _).mono ?_
          rintro e w9 ⟨rfl, hb9⟩
          have HB := Lib.hid (K1.out.call hb9).below
          clear hb9
          go_wp2
          go_ret
          exact ⟨rfl, HB.out⟩
        · rw [hix] at HIX
          cases hiy : inS y
          · rw [hiy] at HIY
            clear h hfg hxy law
            go_enter Try.func10, Try.ntmps10
            go_wp2_with fail
            obtain ⟨W, hW⟩ : ∃ W, W = (w.alloc (.cells #[.float .f64 f, .float .f64 g] 55)).alloc (.cells #[.float .f64 x, .float .f64 y] 55) := ⟨_, rfl⟩
            obtain ⟨b1, b2, hb, _⟩ := boxes2 hW
            rw [← hW]
            obtain ⟨q0, q1⟩ := b1.c2'
            obtain ⟨q2, q3⟩ := b2.c2'
            have B0 := Lib.hid hb
            clear hW b1 b2 hb
            go_quiet (fail)
            have K0 := Lib.hid ((KeepD.start w).under (B0.out.drewN nq))
            clear B0 q0 q1 q2 q3
            go_wp2_with fail
            refine (HO.out _).mono ?_
            rintro e w1 ⟨rfl, hb1⟩
            have K1 := Lib.hid (K0.out.call hb1)
            clear hb1
            go_wp2_with fail
            refine (HIF.out _).mono ?_
            rintro e w' ⟨rfl, rfl⟩
            go_wp2_with fail
            refine (HIG.out _).mono ?_
            rintro e w' ⟨rfl, rfl⟩
            go_wp2_with fail
            refine (HIX.out _).mono ?_
            rintro e w' ⟨rfl, rfl⟩
            go_wp2_with fail
            refine (HIY.out _).mono ?_
            rintro e w' ⟨rfl, rfl⟩
            go_wp2_with fail
            refine (HLV.out _).mono ?_
            rintro e w9 ⟨rfl, hb9⟩
            have HB := Lib.hid (K1.out.call hb9).below
            clear hb9
            go_wp2
            go_ret
            exact ⟨rfl, HB.out⟩
          · rw [hiy] at HIY
            have hk := raise_law law hix hiy
            have HDN := Lib.hid (fun W => down_is hk W)
            have fx := (in_600 hix).1
            have fy := (in_600 hiy).1
            have u := law
            generalize fdiv (fsub x (fmul s y)) c = v at *
            generalize fsub (fmul c y) (fmul s v) = z at *
            have q1 := flt0 u.fc u.sgc u.clo
            have q2 := fle_one u.fc u.sgc u.rc
            have HP0 := Lib.hid (fun W => pow04_any 0 (by omega) (by omega) W)
            have HFR := Lib.hid (fun W => from03_any v hk.v64 hk.fv' W)
            have HPC := Lib.hid (fun W => pair06_any c c s s u.c64 u.c64 u.s64 u.s64 u.fc u.fc u.fs u.fs W)
            have HSZ := Lib.hid (fun W => sizes06_any v y hk.v64 hxy.2 hk.fv' fy W)
            have HPA := Lib.hid (fun W => pair06_any c v s y u.c64 hk.v64 u.s64 hxy.2 u.fc hk.fv' u.fs fy W)
            have HPB := Lib.hid (fun W => pair06_any c y (fneg s) v u.c64 hxy.2 (fneg_lt s) hk.v64 u.fc fy (fneg_fin u.fs) hk.fv' W)
            have HEX := Lib.hid (fun W => exact06_any x hxy.1 fx W)
            have HEZ := Lib.hid (fun W => exact06_any z hk.w64 hk.fw W)
            have r1 := R_2 u.fc u.fc u.fs u.fs
            have r2 : R 9000 9000 (pw 0) := R_pw (by omega) (by omega)
            have r3 : R 9000 9000 (ab (fv v) + ab (fv y)) := R_a1 (R_mono (R_fv hk.fv') (by omega) (by omega)) (R_mono (R_fv fy) (by omega) (by omega))
            have r4 := R_2 u.fc hk.fv' u.fs fy
            have r5 := R_2 u.fc fy (fneg_fin u.fs) hk.fv'
            have r6 := R_f fx
            have r7 := R_f hk.fw
            have y1 : decide (ab (fv c * fv c + fv s * fv s - pw 0) ≤ pw 0 * ((8 : Nat) : Rat) * pw (-53) + 0) = true := by
              rw [decide_eq_true_eq, pw_zero, uu_eq]
              have := u.one
              rw [show ((8 : Nat) : Rat) = 8 from rfl]
              grind
            have y2 : decide (ab (fv c * fv v + fv s * fv y - fv x) ≤ (ab (fv v) + ab (fv y)) * ((16 : Nat) : Rat) * pw (-53) + 0) = true := by
              rw [decide_eq_true_eq, uu_eq]
              have := hk.one
              rw [show ((16 : Nat) : Rat) = 16 from rfl]
              grind
            have y3 : decide (ab (fv z - (fv c * fv y + fv (fneg s) * fv v)) ≤ (ab (fv v) + ab (fv y)) * ((16 : Nat) : Rat) * pw (-53) + 0) = true := by
              rw [decide_eq_true_eq, uu_eq, fv_fneg, show fv c * fv y + -fv s * fv v = fv c * fv y - fv s * fv v from by grind]
              have := hk.two
              rw [show ((16 : Nat) : Rat) = 16 from rfl]
              grind
            have hneg := fun (W : World) => run_negF (P := Try.prog) s W
            rw [neg_bits u.s64] at hneg
            have R1 := Lib.hid r1; have R2 := Lib.hid r2; have R3 := Lib.hid r3; have R4 := Lib.hid r4; have R5 := Lib.hid r5; have R6 := Lib.hid r6; have R7 := Lib.hid r7
            have Y1 := Lib.hid y1; have Y2 := Lib.hid y2; have Y3 := Lib.hid y3
            generalize fneg s = s' at *
            generalize fv c * fv c + fv s * fv s = CC at *
            generalize fv c * fv v + fv s * fv y = CV at *
            generalize fv c * fv y + fv s' * fv v = CW at *
            generalize ab (fv v) + ab (fv y) = SZ at *
            generalize fv x = XF at *
            generalize fv z = ZF at *
            clear h hfg hxy law u hk fx fy hix hiy hif hig r1 r2 r3 r4 r5 r6 r7 y1 y2 y3
            go_enter Try.func10, Try.ntmps10
            go_wp2_with fail
            obtain ⟨W, hW⟩ : ∃ W, W = (w.alloc (.cells #[.float .f64 f, .float .f64 g] 55)).alloc (.cells #[.float .f64 x, .float .f64 y] 55) := ⟨_, rfl⟩
            obtain ⟨b1, b2, hb, _⟩ := boxes2 hW
            rw [← hW]
            obtain ⟨q0, q1⟩ := b1.c2'
            obtain ⟨q2, q3⟩ := b2.c2'
            have B0 := Lib.hid hb
            clear hW b1 b2 hb
            go_quiet (fail)
            have K0 := Lib.hid ((KeepD.start w).under (B0.out.drewN nq))
            clear B0 q0 q1 q2 q3
            go_wp2_with fail
            refine (HO.out _).mono ?_
            rintro e w1 ⟨rfl, hb1⟩
            have K1 := Lib.hid (K0.out.call hb1)
            clear hb1
            go_wp2_with fail
            refine (HIF.out _).mono ?_
            rintro e w' ⟨rfl, rfl⟩
            go_wp2_with fail
            refine (HIG.out _).mono ?_
            rintro e w' ⟨rfl, rfl⟩
            go_wp2_with fail
            refine (HIX.out _).mono ?_
            rintro e w' ⟨rfl, rfl⟩
            go_wp2_with fail
            refine (HIY.out _).mono ?_
            rintro e w' ⟨rfl, rfl⟩
            go_wp2_with fail
            refine (HP0.out _).mono ?_
            rintro e w2 ⟨⟨v, rfl, hv⟩, hb2⟩
            obtain ⟨d2, A2, c2, rfl, ha2, hv2⟩ := hv.a
            have k2 := (K1.out.call hb2).push ha2
            obtain ⟨E2, hE2⟩ : ∃ E2, E2 = w2.alloc (.cells #[.bool d2.neg, .slice A2 (nd d2.n).length c2, .int .i64 d2.e] 30) := ⟨_, rfl⟩
            rw [← hE2] at k2
            obtain ⟨g2, hg2, k2⟩ := k2.name
            have K2 := Lib.hid k2
            have HE2 := Lib.hid hE2
            have HX2 := Lib.hid hv2
            have HG2 := Lib.hid hg2
            unfold dyV
            clear hv ha2 hb2 k2 hE2 hv2 hg2
            go_wp2_with fail
            rw [← HE2.out, HG2.out]
            clear HE2
            refine (HDN.out _).mono ?_
            rintro e w3 ⟨rfl, hb3⟩
            have K3 := Lib.hid (K2.out.call hb3)
            clear hb3
            go_wp2_with fail
            refine (HFR.out _).mono ?_
            rintro e w4 ⟨⟨v, rfl, hv⟩, hb4⟩
            obtain ⟨d4, A4, c4, rfl, ha4, hv4⟩ := hv.a
            have k4 := (K3.out.call hb4).push ha4
            obtain ⟨E4, hE4⟩ : ∃ E4, E4 = w4.alloc (.cells #[.bool d4.neg, .slice A4 (nd d4.n).length c4, .int .i64 d4.e] 30) := ⟨_, rfl⟩
            rw [← hE4] at k4
            obtain ⟨g4, hg4, k4⟩ := k4.name
            have K4 := Lib.hid k4
            have HE4 := Lib.hid hE4
            have HX4 := Lib.hid hv4
            have HG4 := Lib.hid hg4
            unfold dyV
            clear hv ha4 hb4 k4 hE4 hv4 hg4
            go_wp2_with fail
            rw [← HE4.out, HG4.out]
            clear HE4
            have HNE := fun Y u1 (h : Below E4.heap.size E4 Y) h1 => near06_any u1 _ _ _ 8 CC (pw 0) (pw 0) 0 Y h1 (by have := ((K4.out.call h).val (.tail _ (.head _))).v; rw [HX2.out] at this; exact this) (by have := ((K4.out.call h).val (.tail _ (.head _))).v; rw [HX2.out] at this; exact this) (DyV.zero Y) (by omega) R1.out R2.out R2.out (R_zero _ _)
            rw [Y1.out] at HNE
            unfold dyV zDy at HNE
            have HNE := Lib.hid HNE
            have HKE := Lib.hid (fun Y (h : Below E4.heap.size E4 Y) => And.intro ((K4.out.call h).box (.tail _ (.head _))).c3 (h))
            go_cut [92] (fun s92 wx => s92 = .bool false ∧ KeepD w wx [] [] [])
            case first =>
              go_region_held3 (fun Y => ((Y.cell? ⟨g2, 0, none⟩ = some (.bool d2.neg) ∧ Y.cell? ⟨g2, 1, none⟩ = some (.slice A2 (nd d2.n).length c2) ∧ Y.cell? ⟨g2, 2, none⟩ = some (.int .i64 d2.e)) ∧ Below E4.heap.size E4 Y))
                ((refine HKE.out _ ?_; (repeat (first | assumption | exact Below.refl _ _ | refine Below.allocs ?_ _ | refine Below.drews ?_ | refine Below.chain ?_ (by assumption)))))
                (first
                  | (go_at_call 32; (refine (HPC.out _).mono ?_); rintro e y5 ⟨⟨v, rfl, hpv⟩, hb5⟩; obtain ⟨d5, A5, c5, rfl, ha5, hv5⟩ := hpv.a; unfold dyV at *)
                  | (go_at_call 31; (refine (HNE.out _ _ (by repeat (first | assumption | exact Below.refl _ _ | refine Below.allocs ?_ _ | refine Below.drews ?_ | refine Below.chain ?_ (by assumption))) (hpv.below (by repeat (first | assumption | exact Below.refl _ _ | refine Below.allocs ?_ _ | refine Below.drews ?_ | refine Below.chain ?_ (by assumption))))).mono ?_); rintro e y6 ⟨rfl, hb6⟩; have hbE : Below E4.heap.size E4 y6 := (Below.chain (by repeat (first | assumption | exact Below.refl _ _ | refine Below.allocs ?_ _ | refine Below.drews ?_ | refine Below.chain ?_ (by assumption))) hb6)))
              all_goals
                have HK := Lib.hid ((K4.out.call hbE).few (L' := []) (M' := []) (O' := []) (fun y hy => absurd hy List.not_mem_nil) (fun y hy => absurd hy List.not_mem_nil) (fun y hy => absurd hy List.not_mem_nil))
                go_wp2_with fail
                go_meet
                exact ⟨rfl, HK.out⟩
            case rest =>
              obtain ⟨rfl, hK⟩ := hcut
              have K5 := Lib.hid hK
              clear hK HKE HNE
              go_wp2_with fail
              refine (HSZ.out _).mono ?_
              rintro e w6 ⟨⟨v, rfl, hv⟩, hb6⟩
              obtain ⟨d6, A6, c6, rfl, ha6, hv6⟩ := hv.a
              have k6 := (K5.out.call hb6).push ha6
              obtain ⟨E6, hE6⟩ : ∃ E6, E6 = w6.alloc (.cells #[.bool d6.neg, .slice A6 (nd d6.n).length c6, .int .i64 d6.e] 30) := ⟨_, rfl⟩
              rw [← hE6] at k6
              obtain ⟨g6, hg6, k6⟩ := k6.name
              have K6 := Lib.hid k6
              have HE6 := Lib.hid hE6
              have HX6 := Lib.hid hv6
              have HG6 := Lib.hid hg6
              unfold dyV
              clear hv ha6 hb6 k6 hE6 hv6 hg6
              go_wp2_with fail
              rw [← HE6.out, HG6.out]
              clear HE6
              have HNE := fun Y u1 u2 (h : Below E6.heap.size E6 Y) h1 h2 => near06_any u1 u2 _ _ 16 CV XF SZ 0 Y h1 h2 (by have := ((K6.out.call h).val (.head _)).v; rw [HX6.out] at this; exact this) (DyV.zero Y) (by omega) R4.out R6.out R3.out (R_zero _ _)
              have HNF := fun Y u1 u2 (h : Below E6.heap.size E6 Y) h1 h2 => near06_any u1 u2 _ _ 16 ZF CW SZ 0 Y h1 h2 (by have := ((K6.out.call h).val (.head _)).v; rw [HX6.out] at this; exact this) (DyV.zero Y) (by omega) R7.out R5.out R3.out (R_zero _ _)
              rw [Y2.out] at HNE
              rw [Y3.out] at HNF
              unfold dyV zDy at HNE HNF
              have HNE := Lib.hid HNE; have HNF := Lib.hid HNF
              have HKE := Lib.hid (fun Y (h : Below E6.heap.size E6 Y) => And.intro ((K6.out.call h).box (.head _)).c3 (h))
              go_region_held3 (fun Y => ((Y.cell? ⟨g6, 0, none⟩ = some (.bool d6.neg) ∧ Y.cell? ⟨g6, 1, none⟩ = some (.slice A6 (nd d6.n).length c6) ∧ Y.cell? ⟨g6, 2, none⟩ = some (.int .i64 d6.e)) ∧ Below E6.heap.size E6 Y))
                ((refine HKE.out _ ?_; (repeat (first | assumption | exact Below.refl _ _ | refine Below.allocs ?_ _ | refine Below.drews ?_ | refine Below.chain ?_ (by assumption)))))
                (first
                  | (go_at_call 33; (with_reducible refine (HEX.out _).mono ?_); rintro e y21 ⟨⟨v, rfl, hex⟩, hb21⟩; obtain ⟨d21, A21, c21, rfl, ha21, hv21⟩ := hex.a; unfold dyV at *)
                  | (go_at_call 33; (with_reducible refine (HEZ.out _).mono ?_); rintro e y22 ⟨⟨v, rfl, hez⟩, hb22⟩; obtain ⟨d22, A22, c22, rfl, ha22, hv22⟩ := hez.a; unfold dyV at *)
                  | (go_at_call 32; (with_reducible refine (HPA.out _).mono ?_); rintro e y23 ⟨⟨v, rfl, hpa⟩, hb23⟩; obtain ⟨d23, A23, c23, rfl, ha23, hv23⟩ := hpa.a; unfold dyV at *)
                  | (go_at_call 32; (with_reducible refine (HPB.out _).mono ?_); rintro e y24 ⟨⟨v, rfl, hpb⟩, hb24⟩; obtain ⟨d24, A24, c24, rfl, ha24, hv24⟩ := hpb.a; unfold dyV at *)
                  | (go_at_call 31; (refine (HNF.out _ _ _ (by repeat (first | assumption | exact Below.refl _ _ | refine Below.allocs ?_ _ | refine Below.drews ?_ | refine Below.chain ?_ (by assumption))) (hez.below (by repeat (first | assumption | exact Below.refl _ _ | refine Below.allocs ?_ _ | refine Below.drews ?_ | refine Below.chain ?_ (by assumption)))) (hpb.below (by repeat (first | assumption | exact Below.refl _ _ | refine Below.allocs ?_ _ | refine Below.drews ?_ | refine Below.chain ?_ (by assumption))))).mono ?_); rintro e y26 ⟨rfl, hb26⟩)
                  | (go_at_call 31; (refine (HNE.out _ _ _ (by repeat (first | assumption | exact Below.refl _ _ | refine Below.allocs ?_ _ | refine Below.drews ?_ | refine Below.chain ?_ (by assumption))) (hpa.below (by repeat (first | assumption | exact Below.refl _ _ | refine Below.allocs ?_ _ | refine Below.drews ?_ | refine Below.chain ?_ (by assumption)))) (hex.below (by repeat (first | assumption | exact Below.refl _ _ | refine Below.allocs ?_ _ | refine Below.drews ?_ | refine Below.chain ?_ (by assumption))))).mono ?_); rintro e y25 ⟨rfl, hb25⟩)
                  | (go_at_call 30; (refine (HLV.out _).mono ?_); rintro e y27 ⟨rfl, hb27⟩; have hbE : Below E6.heap.size E6 y27 := (Below.chain (by repeat (first | assumption | exact Below.refl _ _ | refine Below.allocs ?_ _ | refine Below.drews ?_ | refine Below.chain ?_ (by assumption))) hb27)))
              all_goals
                have HBE := Lib.hid (K6.out.call hbE).below
                go_wp2
                go_ret
                exact ⟨rfl, HBE.out⟩
end Go.Proofs.Ytfnhcgpdlhndhaa
