/- The walk of KernDots. -/
import Derived.Test.YtfnhcgpdlhndhaaYp
import Derived.Test.YtfnhcgpdlhndhaaM
set_option linter.unusedVariables false
namespace Lev
theorem R_of_sum {t : Nat → Rat} {n : Nat} (hn : n ≤ 40) (h : ∀ i, i < n → R 2148 2050 (t i)) : R 9000 9000 (sumR t n) := R_mono (R_sum n h) (by omega) (by omega)
end Lev
namespace Go.Proofs.Ytfnhcgpdlhndhaa
open Go.RowKit Go.Shelf Lev

set_option maxRecDepth 100000 in
set_option maxHeartbeats 2000000 in
theorem kernDots (xs : List Nat) (A : Option Addr) (c : Nat) (ys : List Nat) (B : Option Addr) (d : Nat) (w : World) (hx : SlArg w A xs c) (hy : SlArg w B ys d) :
    Calls Try.prog 3 #[.slice A xs.length c, .slice B ys.length d] w fun e w' => e = .returned (.bool true) ∧ Below w.heap.size w w' := by
  have hl63 : xs.length ≤ 9223372036854775807 := Nat.le_trans hx.cap hx.room
  have hl64 : ys.length ≤ 9223372036854775807 := Nat.le_trans hy.cap hy.room
  by_cases h1 : (12 : Int) < (xs.length : Int) ∨ (12 : Int) < (ys.length : Int)
  · have h2 : (12 : Int) < (xs.length : Int) ∨ (¬ (12 : Int) < (xs.length : Int) ∧ (12 : Int) < (ys.length : Int)) := by omega
    have H2 := Lib.hid h2
    have HLV := Lib.hid (live05 w)
    clear hx hy h1 h2
    rcases H2.out with h | ⟨h, h'⟩
    all_goals
      go_enter Try.func3, Try.ntmps3
      go_wp2_with fail
      refine HLV.out.mono ?_
      rintro e w' ⟨rfl, hb⟩
      have HB := Lib.hid hb
      clear hb
      go_wp2
      go_ret
      exact ⟨rfl, HB.out⟩
  · have hl : xs.length ≤ 12 := by omega
    have hl2 : ys.length ≤ 12 := by omega
    have n1 : ¬ (12 : Int) < (xs.length : Int) := by omega
    have n2 : ¬ (12 : Int) < (ys.length : Int) := by omega
    have K0 := Lib.hid (((KeepD.start w).more hx).more hy)
    have HD := Lib.hid (kdot_any A xs c B ys d w hx hy (by omega))
    clear h1
    cases hfit : fitS xs ys
    · rw [hfit] at HD
      clear hx hy
      go_enter Try.func3, Try.ntmps3
      go_wp2_with fail
      refine HD.out.mono ?_
      rintro e w1 ⟨rfl, hb1⟩
      have HB1 := Lib.hid hb1
      clear hb1
      go_wp2_with fail
      refine (live05 _).mono ?_
      rintro e w' ⟨rfl, hb⟩
      have HB := Lib.hid (Below.chain HB1.out hb)
      clear hb
      go_wp2
      go_ret
      exact ⟨rfl, HB.out⟩
    · rw [hfit] at HD
      obtain ⟨e1, ax, ay⟩ := fitS_iff.1 hfit
      have fx : ∀ i, i < xs.length → fin (ge xs i) := fun i hi => (inS_bd (allIn_get ax hi)).1
      have fy : ∀ i, i < xs.length → fin (ge ys i) := fun i hi => (inS_bd (allIn_get ay (k := i) (by omega))).1
      have HLAW := Lib.hid (dots_law hfit hl)
      have hdf : dotF xs ys < 18446744073709551616 ∧ fin (dotF xs ys) := by
        have hs := sumT_bd (t := dotT xs ys) (E := 800) (by decide) (by decide) xs.length (by omega) (fun i hi => dotT_bd hfit hi)
        unfold dotF; rw [if_pos hfit]; exact ⟨hs.2.2, hs.1⟩
      have HDF := Lib.hid hdf
      have hD1 := Lib.hid (fun W h => dot03_any xs ys A B c d W (hx.below h) (hy.below h) e1 (by omega) fx fy)
      have hS1 := Lib.hid (fun W h => sizes05_any xs A c W (hx.below h) (by omega))
      have hS2 := Lib.hid (fun W h => sizes05_any ys B d W (hy.below h) (by omega))
      have hD2 := Lib.hid (fun W R1 m1 R2 m2 h h' => dot03_any (absL xs) (absL ys) R1 R2 m1 m2 W h h' (by rw [absL_len, absL_len]; exact e1) (by rw [absL_len]; omega) (fun i hi => by
        rw [absL_len] at hi
        rw [absL_ge xs hi]; exact fin_rg' (fx i hi)) (fun i hi => by
        rw [absL_len] at hi
        rw [absL_ge ys (by omega)]; exact fin_rg' (fy i hi)))
      have hsum : sumR (fun i => fv (ge (absL xs) i) * fv (ge (absL ys) i)) (absL xs).length = sumR (fun i => ab (fv (ge xs i)) * ab (fv (ge ys i))) xs.length := by
        rw [absL_len]
        refine sumR_congr _ (fun i hi => ?_)
        show fv (ge (absL xs) i) * fv (ge (absL ys) i) = _
        rw [absL_ge xs hi, absL_ge ys (by omega), fv_rg, fv_rg]
      rw [hsum] at hD2
      have hRD : R 9000 9000 (sumR (fun i => fv (ge xs i) * fv (ge ys i)) xs.length) := R_of_sum (by omega) (fun i hi => R_mul (R_fv (fx i hi)) (R_fv (fy i hi)))
      have hRS : R 9000 9000 (sumR (fun i => ab (fv (ge xs i)) * ab (fv (ge ys i))) xs.length) := R_of_sum (by omega) (fun i hi => R_mul (R_ab (R_fv (fx i hi))) (R_ab (R_fv (fy i hi))))
      have HRD := Lib.hid hRD; have HRS := Lib.hid hRS
      have HE1 := Lib.hid e1
      generalize dotF xs ys = s at *
      generalize sumR (fun i => fv (ge xs i) * fv (ge ys i)) xs.length = D at *
      generalize sumR (fun i => ab (fv (ge xs i)) * ab (fv (ge ys i))) xs.length = S at *
      clear hx hy hfit e1 ax ay fx fy hdf hsum hRD hRS
      go_enter Try.func3, Try.ntmps3
      go_wp2_with fail
      refine HD.out.mono ?_
      rintro e w1 ⟨rfl, hb1⟩
      have K1 := Lib.hid (K0.out.call hb1)
      have HDD := Lib.hid (hD1.out _ hb1)
      clear hb1
      go_wp2_with fail
      refine HDD.out.mono ?_
      rintro e w2 ⟨⟨v, rfl, hv⟩, hb2⟩
      obtain ⟨d1, A1, c1, rfl, ha1, hv1⟩ := hv.a
      have k2 := (K1.out.call hb2).push ha1
      obtain ⟨W2, hW2⟩ : ∃ W2, W2 = w2.alloc (.cells #[.bool d1.neg, .slice A1 (nd d1.n).length c1, .int .i64 d1.e] 30) := ⟨_, rfl⟩
      rw [← hW2] at k2
      have K2 := Lib.hid k2
      have HW2 := Lib.hid hW2; have HV1 := Lib.hid hv1
      unfold dyV
      clear hv ha1 hb2 k2 hW2 hv1
      go_wp2_with fail
      rw [← HW2.out]
      refine (hS1.out _ K2.out.below).mono ?_
      rintro e w3 ⟨⟨R1, m1, rfl, hs3⟩, hb3⟩
      have K3 := Lib.hid ((K2.out.call hb3).more hs3)
      clear hs3 hb3
      go_wp2_with fail
      refine (hS2.out _ K3.out.below).mono ?_
      rintro e w4 ⟨⟨R2, m2, rfl, hs4⟩, hb4⟩
      have K4 := Lib.hid ((K3.out.call hb4).more hs4)
      clear hs4 hb4
      go_wp2_with fail
      refine (hD2.out _ _ _ _ _ (K4.out.arg (.tail _ (.head _))) (K4.out.arg (.head _))).mono ?_
      rintro e w5 ⟨⟨v, rfl, hv⟩, hb5⟩
      obtain ⟨d2, A2, c2, rfl, ha2, hv2⟩ := hv.a
      have k5 := (K4.out.call hb5).push ha2
      obtain ⟨E, hE⟩ : ∃ E, E = w5.alloc (.cells #[.bool d2.neg, .slice A2 (nd d2.n).length c2, .int .i64 d2.e] 30) := ⟨_, rfl⟩
      rw [← hE] at k5
      have KE := Lib.hid k5
      have HE := Lib.hid hE
      have HPW := Lib.hid (fun Y => pow04_any (-1074) (by omega) (by omega) Y)
      have hR5 : R 1074 20 (pw (-1074) * (xs.length : Rat)) := R_mono (R_mul (a := 1074) (b := 0) (c := 0) (d := 20) (R_pw (by omega) (by omega)) (R_nat (by rw [show (20 : Int) = ((20 : Nat) : Int) from rfl, pw_nat]; exact cast_lt.2 (by omega)))) (by omega) (by omega)
      have HTI := Lib.hid (fun Y v' h' => times04_any v' (pw (-1074)) xs.length Y h' (by omega) (R_Q hR5 (by omega) (by omega)))
      have HAP := Lib.hid (fun Y v' (h : Below E.heap.size E Y) h' => apart05_any s _ _ v' (xs.length + 1) D S (pw (-1074) * (xs.length : Rat)) Y HDF.out.1 HDF.out.2 (by have := ((k5.call h).val (.tail _ (.head _))).v; rw [HV1.out] at this; exact this) (by have := ((k5.call h).val (.head _)).v; rw [hv2] at this; exact this) h' (by omega) HRD.out HRS.out (R_mono hR5 (by omega) (by omega)))
      have hno : decide (S * ((xs.length + 1 : Nat) : Rat) * pw (-53) + pw (-1074) * (xs.length : Rat) < ab (fv s - D)) = false := decide_eq_false HLAW.out
      rw [hno] at HAP
      have HKE := Lib.hid (fun Y (h : Below E.heap.size E Y) => And.intro ((KE.out.call h).box (.tail _ (.head _))).c3 (And.intro ((KE.out.call h).box (.head _)).c3 h))
      have hw1 : IntKind.i64.wrap ((xs.length : Int) + 1) = ((xs.length + 1 : Nat) : Int) := by rw [IntKind.wrap_i64]; omega
      have HLV := Lib.hid (fun W => live05 W)
      unfold dyV at HAP ⊢
      clear hv ha2 hb5 k5 hE hno hR5 HLAW hv2 HV1 HRD HRS HDF
      go_wp2_with fail
      rw [← HE.out]
      generalize w5.heap.size = g2 at *
      generalize w2.heap.size = g1 at *
      go_region_held3 (fun Y => ((Y.cell? ⟨g1, 0, none⟩ = some (.bool d1.neg) ∧ Y.cell? ⟨g1, 1, none⟩ = some (.slice A1 (nd d1.n).length c1) ∧ Y.cell? ⟨g1, 2, none⟩ = some (.int .i64 d1.e)) ∧ (Y.cell? ⟨g2, 0, none⟩ = some (.bool d2.neg) ∧ Y.cell? ⟨g2, 1, none⟩ = some (.slice A2 (nd d2.n).length c2) ∧ Y.cell? ⟨g2, 2, none⟩ = some (.int .i64 d2.e)) ∧ Below E.heap.size E Y))
        ((refine HKE.out _ ?_; (repeat (first | assumption | exact Below.refl _ _ | refine Below.allocs ?_ _ | refine Below.drews ?_ | refine Below.chain ?_ (by assumption)))))
        (first
          | (go_at_call 17; (refine (HPW.out _).mono ?_); rintro e y5 ⟨⟨v, rfl, hpv⟩, hb5⟩; obtain ⟨d5, A5, c5, rfl, ha5, hv5⟩ := hpv.a; unfold dyV at *)
          | (go_at_call 16; (refine (HTI.out _ _ (hpv.below (by repeat (first | assumption | exact Below.refl _ _ | refine Below.allocs ?_ _ | refine Below.drews ?_ | refine Below.chain ?_ (by assumption))))).mono ?_); rintro e y6 ⟨⟨v, rfl, htv⟩, hb6⟩; obtain ⟨d6, A6, c6, rfl, ha6, hv6⟩ := htv.a; unfold dyV at *)
          | (go_at_call 15; (refine (HAP.out _ _ (by repeat (first | assumption | exact Below.refl _ _ | refine Below.allocs ?_ _ | refine Below.drews ?_ | refine Below.chain ?_ (by assumption))) (htv.below (by repeat (first | assumption | exact Below.refl _ _ | refine Below.allocs ?_ _ | refine Below.drews ?_ | refine Below.chain ?_ (by assumption))))).mono ?_); rintro e y7 ⟨rfl, hb7⟩)
          | (go_at_call 11; (refine (HLV.out _).mono ?_); rintro e y8 ⟨rfl, hb8⟩; have hbE : Below E.heap.size E y8 := (Below.chain (by repeat (first | assumption | exact Below.refl _ _ | refine Below.allocs ?_ _ | refine Below.drews ?_ | refine Below.chain ?_ (by assumption))) hb8)))
      all_goals
        have HBE := Lib.hid (KE.out.call hbE).below
        go_wp2
        go_ret
        exact ⟨rfl, HBE.out⟩
end Go.Proofs.Ytfnhcgpdlhndhaa
