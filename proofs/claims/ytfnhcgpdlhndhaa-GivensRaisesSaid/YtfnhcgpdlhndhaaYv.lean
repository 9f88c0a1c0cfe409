/- The walks of GivensUnit and GivensPivot. -/
import Derived.Test.YtfnhcgpdlhndhaaYu
set_option linter.unusedVariables false
namespace Lev
theorem R_1 (b : Int) (h : 1 ≤ b) : R 0 b 1 := by have := R_nat (n := 1) (b := b) (by show (1 : Rat) < pw b; rw [← pw_zero]; exact pw_lt (by omega)); exact this
theorem R_2 {x y z u : Nat} (hx : fin x) (hy : fin y) (hz : fin z) (hu : fin u) : R 9000 9000 (fv x * fv y + fv z * fv u) := R_mono (R_add (R_mul (R_fv hx) (R_fv hy)) (R_mul (R_fv hz) (R_fv hu))) (by omega) (by omega)
theorem R_f {x : Nat} (hx : fin x) : R 9000 9000 (fv x) := R_mono (R_fv hx) (by omega) (by omega)
end Lev
namespace Go.Proofs.Ytfnhcgpdlhndhaa
open Go.RowKit Go.Shelf Lev

theorem run_negF {P : Program} (b : Nat) (w : World) : (Op.unary .neg (.float .f64 b)).run P w = .ok (.float .f64 (Op.negFloat .f64 b)) w := rfl

attribute [local go_sem] order_lt order_gt order_eq order_ne order_le order_ge flt_or_feq flt_or_feq'

set_option maxRecDepth 100000 in
set_option maxHeartbeats 2000000 in
theorem givensUnit (f g : Nat) (w : World) (hf : f < 18446744073709551616) (hg : g < 18446744073709551616) :
    Calls Try.prog 6 #[.float .f64 f, .float .f64 g] w fun e w' => e = .returned (.bool true) ∧ Below w.heap.size w w' := by
  have HLV := Lib.hid (fun W => live06 W)
  have HO := gof_any f g hf hg w
  rcases ofT_cases f g with h | ⟨c, s, r, h, ff, fg, law⟩
  · rw [h] at HO
    have HO := Lib.hid HO
    clear h
    go_enter Try.func6, Try.ntmps6
    go_wp2_with fail
    refine HO.out.mono ?_
    rintro e w1 ⟨rfl, hb1⟩
    have HB1 := Lib.hid hb1
    clear hb1
    go_wp2_with fail
    refine (HLV.out _).mono ?_
    rintro e w2 ⟨rfl, hb2⟩
    have HB := Lib.hid (Below.chain HB1.out hb2)
    clear hb2
    go_wp2
    go_ret
    exact ⟨rfl, HB.out⟩
  · rw [h] at HO
    have HO := Lib.hid HO
    obtain ⟨p1, p2⟩ := fle_le1 law.u.fc law.u.c1
    obtain ⟨p3, p4⟩ := fle_le1 law.u.fs law.u.s1
    have p5 := fle_rg law.fr law.sr law.rf
    have p6 := fle_rg law.fr law.sr law.rg'
    have HAF := Lib.hid (fun W => abs_any f hf W)
    have HAG := Lib.hid (fun W => abs_any g hg W)
    have HPW := Lib.hid (fun W => pow04_any 0 (by omega) (by omega) W)
    have HPA := Lib.hid (fun W => pair06_any c c s s law.c64 law.c64 law.s64 law.s64 law.u.fc law.u.fc law.u.fs law.u.fs W)
    have hRP := R_2 law.u.fc law.u.fc law.u.fs law.u.fs
    have hR1 : R 9000 9000 (pw 0) := R_pw (by omega) (by omega)
    have hyes : decide (ab (fv c * fv c + fv s * fv s - pw 0) ≤ pw 0 * ((8 : Nat) : Rat) * pw (-53) + 0) = true := by
      rw [decide_eq_true_eq, pw_zero, uu_eq]
      have := law.u.one
      rw [show ((8 : Nat) : Rat) = 8 from rfl]
      unfold uu at *
      grind
    have HRP := Lib.hid hRP; have HR1 := Lib.hid hR1; have HYES := Lib.hid hyes
    generalize rg f = fa at *
    generalize rg g = ga at *
    generalize fv c * fv c + fv s * fv s = PP at *
    clear h law ff fg hf hg hRP hR1 hyes
    go_enter Try.func6, Try.ntmps6
    go_wp2_with fail
    refine HO.out.mono ?_
    rintro e w1 ⟨rfl, hb1⟩
    have K1 := Lib.hid ((KeepD.start w).call hb1)
    clear hb1
    go_wp2_with fail
    refine (HAF.out _).mono ?_
    rintro e w2 ⟨rfl, rfl⟩
    go_wp2_with fail
    refine (HAG.out _).mono ?_
    rintro e w2 ⟨rfl, rfl⟩
    go_wp2_with fail
    refine (HPW.out _).mono ?_
    rintro e w2 ⟨⟨v, rfl, hv⟩, hb2⟩
    obtain ⟨d1, A1, c1, rfl, ha1, hv1⟩ := hv.a
    have k2 := (K1.out.call hb2).push ha1
    obtain ⟨E, hE⟩ : ∃ E, E = w2.alloc (.cells #[.bool d1.neg, .slice A1 (nd d1.n).length c1, .int .i64 d1.e] 30) := ⟨_, rfl⟩
    rw [← hE] at k2
    have KE := Lib.hid k2
    have HE := Lib.hid hE
    have HNE := fun Y v' (h : Below E.heap.size E Y) h' => near06_any v' _ _ _ 8 PP (pw 0) (pw 0) 0 Y h' (by have := ((k2.call h).val (.head _)).v; rw [hv1] at this; exact this) (by have := ((k2.call h).val (.head _)).v; rw [hv1] at this; exact this) (DyV.zero Y) (by omega) HRP.out HR1.out HR1.out (R_zero _ _)
    rw [HYES.out] at HNE
    have HKE := Lib.hid (fun Y (h : Below E.heap.size E Y) => And.intro ((KE.out.call h).box (.head _)).c3 h)
    unfold dyV zDy at HNE
    have HNE := Lib.hid HNE
    unfold dyV
    clear hv ha1 hb2 k2 hE hv1
    go_wp2_with fail
    rw [← HE.out]
    generalize w2.heap.size = g1 at *
    go_region_held3 (fun Y => ((Y.cell? ⟨g1, 0, none⟩ = some (.bool d1.neg) ∧ Y.cell? ⟨g1, 1, none⟩ = some (.slice A1 (nd d1.n).length c1) ∧ Y.cell? ⟨g1, 2, none⟩ = some (.int .i64 d1.e)) ∧ Below E.heap.size E Y))
      ((refine HKE.out _ ?_; (repeat (first | assumption | exact Below.refl _ _ | refine Below.allocs ?_ _ | refine Below.drews ?_ | refine Below.chain ?_ (by assumption)))))
      (first
        | (go_at_call 32; (refine (HPA.out _).mono ?_); rintro e y5 ⟨⟨v, rfl, hpv⟩, hb5⟩; obtain ⟨d5, A5, c5, rfl, ha5, hv5⟩ := hpv.a; unfold dyV at *)
        | (go_at_call 31; (refine (HNE.out _ _ (by repeat (first | assumption | exact Below.refl _ _ | refine Below.allocs ?_ _ | refine Below.drews ?_ | refine Below.chain ?_ (by assumption))) (hpv.below (by repeat (first | assumption | exact Below.refl _ _ | refine Below.allocs ?_ _ | refine Below.drews ?_ | refine Below.chain ?_ (by assumption))))).mono ?_); rintro e y6 ⟨rfl, hb6⟩)
        | (go_at_call 30; (refine (HLV.out _).mono ?_); rintro e y7 ⟨rfl, hb7⟩; have hbE : Below E.heap.size E y7 := (Below.chain (by repeat (first | assumption | exact Below.refl _ _ | refine Below.allocs ?_ _ | refine Below.drews ?_ | refine Below.chain ?_ (by assumption))) hb7))
)
    all_goals
      have HBE := Lib.hid (KE.out.call hbE).below
      go_wp2
      go_ret
      exact ⟨rfl, HBE.out⟩

set_option maxRecDepth 100000 in
set_option maxHeartbeats 2000000 in
theorem givensPivot (f g : Nat) (w : World) (hf : f < 18446744073709551616) (hg : g < 18446744073709551616) :
    Calls Try.prog 7 #[.float .f64 f, .float .f64 g] w fun e w' => e = .returned (.bool true) ∧ Below w.heap.size w w' := by
  have HLV := Lib.hid (fun W => live06 W)
  have HO := gof_any f g hf hg w
  rcases ofT_cases f g with h | ⟨c, s, r, h, ff, fg, law⟩
  · rw [h] at HO
    have HO := Lib.hid HO
    clear h
    go_enter Try.func7, Try.ntmps7
    go_wp2_with fail
    refine HO.out.mono ?_
    rintro e w1 ⟨rfl, hb1⟩
    have HB1 := Lib.hid hb1
    clear hb1
    go_wp2_with fail
    refine (HLV.out _).mono ?_
    rintro e w2 ⟨rfl, hb2⟩
    have HB := Lib.hid (Below.chain HB1.out hb2)
    clear hb2
    go_wp2
    go_ret
    exact ⟨rfl, HB.out⟩
  · rw [h] at HO
    have HO := Lib.hid HO
    have HPW := Lib.hid (fun W => pow04_any (-1070) (by omega) (by omega) W)
    have HPA := Lib.hid (fun W => pair06_any c f s g law.c64 hf law.s64 hg law.u.fc ff law.u.fs fg W)
    have HPB := Lib.hid (fun W => pair06_any c g (fneg s) f law.c64 hg (fneg_lt s) hf law.u.fc fg (fneg_fin law.u.fs) ff W)
    have HEX := Lib.hid (fun W => exact06_any r law.r64 law.fr W)
    have hRP := R_2 law.u.fc ff law.u.fs fg
    have hRQ := R_2 law.u.fc fg (fneg_fin law.u.fs) ff
    have hRr := R_f law.fr
    have hR1 : R 9000 9000 (pw (-1070)) := R_pw (by omega) (by omega)
    have hyes : decide (ab (fv c * fv f + fv s * fv g - fv r) ≤ fv r * ((8 : Nat) : Rat) * pw (-53) + pw (-1070)) = true := by
      rw [decide_eq_true_eq, uu_eq]; exact law.piv
    have hyes2 : decide (ab (fv c * fv g + fv (fneg s) * fv f - 0) ≤ fv r * ((8 : Nat) : Rat) * pw (-53) + pw (-1070)) = true := by
      rw [decide_eq_true_eq, uu_eq, fv_fneg, show fv c * fv g + -fv s * fv f - 0 = fv c * fv g - fv s * fv f from by grind]; exact law.cross
    have hneg := fun (W : World) => run_negF (P := Try.prog) s W
    rw [neg_bits law.s64] at hneg
    have HRP := Lib.hid hRP; have HRQ := Lib.hid hRQ; have HRR := Lib.hid hRr; have HR1 := Lib.hid hR1; have HYES := Lib.hid hyes; have HYES2 := Lib.hid hyes2
    generalize fneg s = s' at *
    generalize fv c * fv f + fv s * fv g = PP at *
    generalize fv c * fv g + fv s' * fv f = QQ at *
    generalize fv r = RR at *
    clear h law ff fg hf hg hRP hRQ hRr hR1 hyes hyes2
    go_enter Try.func7, Try.ntmps7
    go_wp2_with fail
    refine HO.out.mono ?_
    rintro e w1 ⟨rfl, hb1⟩
    have K1 := Lib.hid ((KeepD.start w).call hb1)
    clear hb1
    go_wp2_with fail
    refine (HPW.out _).mono ?_
    rintro e w2 ⟨⟨v, rfl, hv⟩, hb2⟩
    obtain ⟨d1, A1, c1, rfl, ha1, hv1⟩ := hv.a
    have k2 := (K1.out.call hb2).push ha1
    obtain ⟨E, hE⟩ : ∃ E, E = w2.alloc (.cells #[.bool d1.neg, .slice A1 (nd d1.n).length c1, .int .i64 d1.e] 30) := ⟨_, rfl⟩
    rw [← hE] at k2
    have KE := Lib.hid k2
    have HE := Lib.hid hE
    have HNE := fun Y u1 u2 u3 (h : Below E.heap.size E Y) x1 x2 x3 => near06_any u1 u2 u3 _ 8 PP RR RR (pw (-1070)) Y x1 x2 x3 (by have := ((k2.call h).val (.head _)).v; rw [hv1] at this; exact this) (by omega) HRP.out HRR.out HRR.out HR1.out
    rw [HYES.out] at HNE
    have HNF := fun Y u1 u3 (h : Below E.heap.size E Y) x1 x3 => near06_any u1 (.agg zDy) u3 _ 8 QQ 0 RR (pw (-1070)) Y x1 (DyV.zero Y) x3 (by have := ((k2.call h).val (.head _)).v; rw [hv1] at this; exact this) (by omega) HRQ.out (R_zero _ _) HRR.out HR1.out
    rw [HYES2.out] at HNF
    have HKE := Lib.hid (fun Y (h : Below E.heap.size E Y) => And.intro ((KE.out.call h).box (.head _)).c3 h)
    unfold dyV at HNE
    unfold dyV zDy at HNF
    have HNE := Lib.hid HNE; have HNF := Lib.hid HNF
    unfold dyV
    clear hv ha1 hb2 k2 hE hv1
    go_wp2_with fail
    rw [← HE.out]
    generalize w2.heap.size = g1 at *
    go_region_held3 (fun Y => ((Y.cell? ⟨g1, 0, none⟩ = some (.bool d1.neg) ∧ Y.cell? ⟨g1, 1, none⟩ = some (.slice A1 (nd d1.n).length c1) ∧ Y.cell? ⟨g1, 2, none⟩ = some (.int .i64 d1.e)) ∧ Below E.heap.size E Y))
      ((refine HKE.out _ ?_; (repeat (first | assumption | exact Below.refl _ _ | refine Below.allocs ?_ _ | refine Below.drews ?_ | refine Below.chain ?_ (by assumption)))))
      (first
        | (go_at_call 32; (with_reducible refine (HPA.out _).mono ?_); rintro e y5 ⟨⟨v, rfl, hpv⟩, hb5⟩; obtain ⟨d5, A5, c5, rfl, ha5, hv5⟩ := hpv.a; unfold dyV at *)
        | (go_at_call 32; (with_reducible refine (HPB.out _).mono ?_); rintro e y6 ⟨⟨v, rfl, hqv⟩, hb6⟩; obtain ⟨d6, A6, c6, rfl, ha6, hv6⟩ := hqv.a; unfold dyV at *)
        | (go_at_call 33; (refine (HEX.out _).mono ?_); rintro e y7 ⟨⟨v, rfl, hev⟩, hb7⟩; obtain ⟨d7, A7, c7, rfl, ha7, hv7⟩ := hev.a; unfold dyV at *)
        | (go_at_call 31; (refine (HNF.out _ _ _ (by repeat (first | assumption | exact Below.refl _ _ | refine Below.allocs ?_ _ | refine Below.drews ?_ | refine Below.chain ?_ (by assumption))) (hqv.below (by repeat (first | assumption | exact Below.refl _ _ | refine Below.allocs ?_ _ | refine Below.drews ?_ | refine Below.chain ?_ (by assumption)))) (by refine DyV.below (by assumption) ?_; repeat (first | assumption | exact Below.refl _ _ | refine Below.allocs ?_ _ | refine Below.drews ?_ | refine Below.chain ?_ (by assumption)))).mono ?_); rintro e y8 ⟨rfl, hb8⟩)
        | (go_at_call 31; (refine (HNE.out _ _ _ _ (by repeat (first | assumption | exact Below.refl _ _ | refine Below.allocs ?_ _ | refine Below.drews ?_ | refine Below.chain ?_ (by assumption))) (hpv.below (by repeat (first | assumption | exact Below.refl _ _ | refine Below.allocs ?_ _ | refine Below.drews ?_ | refine Below.chain ?_ (by assumption)))) (by refine DyV.below (by assumption) ?_; repeat (first | assumption | exact Below.refl _ _ | refine Below.allocs ?_ _ | refine Below.drews ?_ | refine Below.chain ?_ (by assumption))) (by refine DyV.below (by assumption) ?_; repeat (first | assumption | exact Below.refl _ _ | refine Below.allocs ?_ _ | refine Below.drews ?_ | refine Below.chain ?_ (by assumption)))).mono ?_); rintro e y9 ⟨rfl, hb9⟩)
        | (go_at_call 30; (refine (HLV.out _).mono ?_); rintro e y10 ⟨rfl, hb10⟩; have hbE : Below E.heap.size E y10 := (Below.chain (by repeat (first | assumption | exact Below.refl _ _ | refine Below.allocs ?_ _ | refine Below.drews ?_ | refine Below.chain ?_ (by assumption))) hb10))
)
    all_goals
      have HBE := Lib.hid (KE.out.call hbE).below
      go_wp2
      go_ret
      exact ⟨rfl, HBE.out⟩
end Go.Proofs.Ytfnhcgpdlhndhaa
