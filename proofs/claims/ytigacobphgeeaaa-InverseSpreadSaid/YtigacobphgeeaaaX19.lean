/- The walk of InverseSpread. -/
import Derived.Test.YtigacobphgeeaaaXz9
import Derived.Test.YtigacobphgeeaaaXy9
set_option linter.unusedVariables false
namespace Lev
theorem rowQ_0 (g : Nat → Nat → Nat) (i : Nat) : rowQ g i 0 = 0 := rfl
theorem rowQ_1 (g : Nat → Nat → Nat) {i j : Nat} (h : i ≤ j) : rowQ g i (j + 1 - i) = rowQ g i (j - i) + fv (wS g i j) * fv (wS g i j) := by
  rw [show j + 1 - i = (j - i) + 1 from by omega]
  show sumR _ (j - i) + fv (wS g i (i + (j - i))) * fv (wS g i (i + (j - i))) = _
  rw [show i + (j - i) = j from by omega]; rfl
theorem rowQ_R {g : Nat → Nat → Nat} {n i m : Nat} (hw : ∀ i j, i ≤ j → j < n → rg (wS g i j) < INF) (hn : n ≤ 6) (hm : i + m ≤ n) : R 2148 2060 (rowQ g i m) :=
  R_mono (R_sum (t := fun s => fv (wS g i (i + s)) * fv (wS g i (i + s))) m (fun s hs => R_mul (a := 1074) (b := 1025) (c := 1074) (d := 1025) (R_fv (hw i (i + s) (by omega) (by omega))) (R_fv (hw i (i + s) (by omega) (by omega))))) (by omega) (by omega)
end Lev
namespace Go.Proofs.Ytigacobphgeeaaa
open Go.RowKit Go.Shelf Lev

attribute [local go_sem] run_store_float order_lt order_gt order_eq order_ne order_le order_ge flt_or_feq flt_or_feq'

set_option maxRecDepth 100000 in
set_option maxHeartbeats 8000000 in
theorem inverseSpread (f : Fct) (A : Option Addr) (c : Nat) (w : World) (hx : SlArg w A f.xs c) :
    Calls Try.prog 7 #[facV f.C A f.xs.length c f.R f.T] w fun e w' => e = .returned (.bool true) ∧ Below w.heap.size w w' := by
  have HLV := Lib.hid (fun W => live18 W)
  have k0 := ((KeepD.start w).more hx).pusho #[.int .i64 f.C, .slice A f.xs.length c, .int .i64 f.R, .int .i64 f.T] 24 (by decide)
  have K0 := Lib.hid k0
  have hl63 : f.xs.length ≤ 9223372036854775807 := Nat.le_trans hx.cap hx.room
  have her := fun W h => Errors_any f A c W h
  by_cases h60 : (60 : Int) < (f.xs.length : Int)
  · unfold facV
    clear hx k0 her
    go_enter Try.func7, Try.ntmps7
    go_wp2_with fail
    refine (HLV.out _).mono ?_
    rintro e w1 ⟨rfl, hb⟩
    have HB := Lib.hid (K0.out.call hb).below
    clear hb
    go_wp2
    go_ret
    exact ⟨rfl, HB.out⟩
  · by_cases hE : errE f = 0
    · obtain ⟨n, hn, hn6⟩ : ∃ n : Nat, f.C = (n : Int) ∧ (1 ≤ n ∧ n ≤ 6) := by
        have h1 : stE f = 0 := by
          unfold errE at hE
          split at hE
          · next h => exact absurd hE h
          · next h => simpa using h
        have hcl := ok_len (st_free h1).1
        exact ⟨f.C.toNat, by omega, by omega⟩
      obtain ⟨hsE, hI, _⟩ := errE_ok hn hE
      obtain ⟨hok, hfree⟩ := st_free hsE
      have hCn : f.C.toNat = n := by omega
      obtain ⟨_, hfw, _⟩ := invE_nw hI hn
      obtain ⟨v1, v2, v3⟩ := spread_law hok hfree
      have hlaw := fun i hi => errs_law (i := i) hn hE hi
      have hrs : rowsS f = rowsL (wS (gS f)) n n := by unfold rowsS; rw [if_pos hI, hCn]
      have hls : errL f = (List.range n).map (errF f n) := by unfold errL; rw [if_pos hE, hCn]
      have hll : ((List.range n).map (errF f n)).length = n := by rw [List.length_map, List.length_range]
      have hlv : ∀ i, i < n → ((List.range n).map (errF f n))[i]?.getD 0 = errF f n i := fun i hi => by
        rw [List.getElem?_map, List.getElem?_range hi]; rfl
      have hwlt : ∀ i j, wS (gS f) i j < 18446744073709551616 := fun i j => wS_lt _ _ _
      have helt : ∀ i, errF f n i < 18446744073709551616 := fun i => arS_lt _ _ _
      have hro := fun W h => Rows_any f A c W h
      have hof := fun W h => rof_any f A c W h
      have hS := rowsL_length (wS (gS f)) n n (Nat.le_refl _)
      have hat := fun i j h1 h2 h3 => rowsL_at (wS (gS f)) (n := n) (i := i) (j := j) h1 h2 n (Nat.le_refl _) h3
      have hin : ∀ i j, i ≤ j → j < n → st n i + (j - i) < st n n := fun i j h1 h2 => st_in (by omega) (by omega)
      have hst := st_all n
      have hst36 : st n n ≤ 36 := by have := Nat.mul_le_mul hn6.2 hn6.2; omega
      have hst1 : 1 ≤ st n n := by have := hin 0 0 (Nat.le_refl _) (by omega); omega
      rw [hrs, hI] at hro
      rw [hls, hE] at her
      rw [stV_ok hsE, hsE] at hof
      have hcl := ok_len hok
      obtain ⟨b1, b2⟩ : -9223372036854775808 ≤ f.R - f.C ∧ f.R - f.C < 9223372036854775808 := by omega
      unfold facV at hro her hof ⊢
      rw [hn] at hro her hof K0 ⊢
      generalize gS f = g at *
      generalize stVar f = va at *
      generalize stRest f = rest at *
      generalize stTot f = tot at *
      generalize stFit f = fit at *
      generalize f.R - (n : Int) = free at *
      have hQR := fun i m h => rowQ_R (g := g) (n := n) (i := i) (m := m) hfw hn6.2 h
      have hn10R : R 0 10 ((n + 10 : Nat) : Rat) := R_nat (by rw [show (10 : Int) = ((10 : Nat) : Int) from rfl, pw_nat]; exact cast_lt.2 (by omega))
      have hq : ∀ i, i < n → decide (0 < cmpQ (ab (fv (errF f n i) * fv (errF f n i) - fv va * rowQ g i (n - i))) (fv va * rowQ g i (n - i) * ((n + 10 : Nat) : Rat) * pw (-53) + pw (-2040))) = false := fun i hi => cmpQ_ngt (hlaw i hi).2.2
      have hfl : ∀ i, i < n → fin (errF f n i) ∧ flt (errF f n i) 0 = false := fun i hi => ⟨(hlaw i hi).1, (hlaw i hi).2.1⟩
      have HP53 := Lib.hid (fun W => pow04_any (-53) (by omega) (by omega) W)
      have HP2040 := Lib.hid (fun W => pow04_any (-2040) (by omega) (by omega) W)
      have HEV := Lib.hid (fun W => exact18_any va v3 v1 W)
      have HEW := Lib.hid (fun i j (h1 : i ≤ j) (h2 : j < n) W => exact18_any (wS g i j) (hwlt i j) (hfw i j h1 h2) W)
      have HEL := Lib.hid (fun i (hi : i < n) W => exact18_any (errF f n i) (helt i) (hfl i hi).1 W)
      have HMW := Lib.hid (fun i j (h1 : i ≤ j) (h2 : j < n) W u1 u2 q1 q2 => mul03_any u1 u2 (fv (wS g i j)) (fv (wS g i j)) W q1 q2 (R_Q (R_mul (R_fv (hfw i j h1 h2)) (R_fv (hfw i j h1 h2))) (by omega) (by omega)))
      have HAW := Lib.hid (fun i j (h1 : i ≤ j) (h2 : j < n) W u1 u2 q1 q2 => add03_any u1 u2 (rowQ g i (j - i)) (fv (wS g i j) * fv (wS g i j)) W q1 q2 (R_Q (a := 2148) (b := 2060) (by rw [← rowQ_1 g h1]; exact hQR i _ (by omega)) (by omega) (by omega)))
      have w1 : ∀ i, i < n → R 3222 3085 (fv va * rowQ g i (n - i)) := fun i hi => R_mul (a := 1074) (b := 1025) (c := 2148) (d := 2060) (R_fv v1) (hQR i _ (by omega))
      have w2 : ∀ i, i < n → R 3222 3095 (fv va * rowQ g i (n - i) * ((n + 10 : Nat) : Rat)) := fun i hi => R_mul (a := 3222) (b := 3085) (c := 0) (d := 10) (w1 i hi) hn10R
      have w3 : ∀ i, i < n → R 3275 3096 (fv va * rowQ g i (n - i) * ((n + 10 : Nat) : Rat) * pw (-53)) := fun i hi => R_mul (a := 3222) (b := 3095) (c := 53) (d := 1) (w2 i hi) (R_pw (by omega) (by omega))
      have w5 : ∀ i, i < n → R 2148 2050 (fv (errF f n i) * fv (errF f n i)) := fun i hi => R_mul (a := 1074) (b := 1025) (c := 1074) (d := 1025) (R_fv (hfl i hi).1) (R_fv (hfl i hi).1)
      have HMV := Lib.hid (fun i (hi : i < n) W u1 u2 q1 q2 => mul03_any u1 u2 (fv va) (rowQ g i (n - i)) W q1 q2 (R_Q (w1 i hi) (by omega) (by omega)))
      have hti := fun i (hi : i < n) W u1 q1 => times04_any u1 (fv va * rowQ g i (n - i)) (n + 10) W q1 (by omega) (R_Q (w2 i hi) (by omega) (by omega))
      rw [show ((n + 10 : Nat) : Int) = (n : Int) + 10 from by omega] at hti
      have HTI := Lib.hid hti
      have HM2 := Lib.hid (fun i (hi : i < n) W u1 u2 q1 q2 => mul03_any u1 u2 (fv va * rowQ g i (n - i) * ((n + 10 : Nat) : Rat)) (pw (-53)) W q1 q2 (R_Q (w3 i hi) (by omega) (by omega)))
      have HA2 := Lib.hid (fun i (hi : i < n) W u1 u2 q1 q2 => add03_any u1 u2 (fv va * rowQ g i (n - i) * ((n + 10 : Nat) : Rat) * pw (-53)) (pw (-2040)) W q1 q2 (R_Q (R_add (w3 i hi) (R_pw (by omega) (by omega))) (by omega) (by omega)))
      have HML := Lib.hid (fun i (hi : i < n) W u1 u2 q1 q2 => mul03_any u1 u2 (fv (errF f n i)) (fv (errF f n i)) W q1 q2 (R_Q (w5 i hi) (by omega) (by omega)))
      have HSL := Lib.hid (fun i (hi : i < n) W u1 u2 q1 q2 => sub03_any u1 u2 (fv (errF f n i) * fv (errF f n i)) (fv va * rowQ g i (n - i)) W q1 q2 (R_Q (R_sub (a := 3222) (b := 3085) (R_mono (w5 i hi) (by omega) (by omega)) (w1 i hi)) (by omega) (by omega)))
      have HATT := Lib.hid (fun i j (h1 : i ≤ j) (h2 : j < n) W => at18_any n i j hn6.2 h1 h2 W)
      have hZ6 : IntKind.i64.wrap ((n : Int) * ((n : Int) + 1)) = 2 * ((st n n : Nat) : Int) := by
        have h1 : ((n : Int) * ((n : Int) + 1)) = 2 * ((st n n : Nat) : Int) := by
          have h2 : (n : Int) * ((n : Int) + 1) = ((n * n + n : Nat) : Int) := by rw [Int.natCast_add, Int.natCast_mul, Int.mul_add, Int.mul_one]
          rw [h2]; omega
        rw [h1, IntKind.wrap_i64]; omega
      have HIN := Lib.hid hin; have HAT := Lib.hid hat
      have HQQ := Lib.hid hq
      have HFL := Lib.hid hfl
      have HQ0 := Lib.hid (rowQ_0 g); have HQ1 := Lib.hid (fun i j h => rowQ_1 g (i := i) (j := j) h)
      have HRO := Lib.hid hro; have HER := Lib.hid her; have HOF := Lib.hid hof; have HLVV := Lib.hid hlv
      obtain ⟨hn1, hn6⟩ := hn6
      generalize rowQ g = Qr at *
      generalize rowsL (wS g) n n = l at *
      generalize (List.range n).map (errF f n) = L at *
      generalize errF f n = lf at *
      rw [← hS] at hZ6
      obtain ⟨Z2, hZ2'⟩ : ∃ Z2 : Int, Z2 = 2 * ((l.length : Nat) : Int) := ⟨_, rfl⟩
      rw [← hZ2'] at hZ6
      have hz1 : 0 ≤ Z2 := by omega
      have hz2 : Z2 ≤ 72 := by omega
      have hz3 : Z2 / 2 = ((l.length : Nat) : Int) := by omega
      have hz4 : (((l.length : Nat) : Int) != ((l.length : Nat) : Int)) = false := by rw [bne_eq_false_iff_eq]
      have hz5 : (((L.length : Nat) : Int) != (n : Int)) = false := by rw [bne_eq_false_iff_eq]; omega
      have HLZ := Lib.hid hS
      have HLL := Lib.hid hll
      have HL1 := Lib.hid (show 1 ≤ l.length by omega)
      clear hx k0 hro her hof hcl hE hsE hI hok hfree hCn hfw v1 v2 v3 hlaw hrs hls hll hlv hwlt helt hS hat hin hst hst36 hst1 hQR hn10R hq hfl w1 w2 w3 w5 hti hn hZ2'
      go_enter Try.func7, Try.ntmps7
      go_wp2_with fail
      refine (HER.out _ (K0.out.arg (.head _))).mono ?_
      rintro e w1 ⟨⟨v, rfl, A1, c1, rfl, hs1, _⟩, hb⟩
      obtain ⟨bl, ol, hAl, _, _⟩ := hs1.reads.2 (by have := HLL.out; omega)
      subst hAl
      have K1 := Lib.hid ((K0.out.call hb).more hs1)
      obtain ⟨r0, r1, r2, r3⟩ := (K1.out.other (.head _)).c4
      clear hb hs1
      go_wp2_with fail
      refine (HRO.out _ (K1.out.arg (.tail _ (.head _)))).mono ?_
      rintro e w2 ⟨⟨v, rfl, A2, c2, rfl, hs2, _⟩, hb⟩
      obtain ⟨bw, ow, hAw, _, _⟩ := hs2.reads.2 (by have := HL1.out; omega)
      subst hAw
      have K2 := Lib.hid ((K1.out.call hb).more hs2)
      clear hb hs2 r0 r1 r2 r3
      obtain ⟨r0, r1, r2, r3⟩ := (K2.out.other (.head _)).c4
      go_wp2_with fail
      refine (HOF.out _ (K2.out.arg (.tail _ (.tail _ (.head _))))).mono ?_
      rintro e w3 ⟨rfl, hb⟩
      have k3 := (K2.out.call hb).pusho #[.int .i64 free, .float .f64 rest, .float .f64 tot, .float .f64 va, .float .f64 fit] 48 (by decide)
      clear r0 r1 r2 r3
      obtain ⟨r0, r1, r2, r3⟩ := ((K2.out.call hb).other (.head _)).c4
      obtain ⟨E3, hE3⟩ : ∃ E3, E3 = w3.alloc (.cells #[.int .i64 free, .float .f64 rest, .float .f64 tot, .float .f64 va, .float .f64 fit] 48) := ⟨_, rfl⟩
      rw [← hE3] at k3
      obtain ⟨gs, hgs⟩ : ∃ gs, gs = w3.heap.size := ⟨_, rfl⟩
      rw [← hgs] at k3
      have K3 := Lib.hid k3
      have HE3 := Lib.hid hE3
      have HGS := Lib.hid hgs
      obtain ⟨s0, s1, s2, s3⟩ := (K3.out.other (.tail _ (.head _))).c4
      rw [hE3] at s0 s1 s2 s3
      clear hb k3 hE3 hgs
      go_wp2_with fail
      rw [← HE3.out, ← HGS.out]
      clear r0 r1 r2 r3 s0 s1 s2 s3 hz3 hz4 hz5 hZ6 HE3 HGS
      go_loopw [10] (fun iv wr => ∃ i : Nat, i ≤ n ∧ iv = .int .i64 (i : Int) ∧ KeepD w wr [] [(some ⟨bw, ow, none⟩, l, c2), (some ⟨bl, ol, none⟩, L, c1), (A, f.xs, c)] [(gs, 48, #[.int .i64 free, .float .f64 rest, .float .f64 tot, .float .f64 va, .float .f64 fit]), (w.heap.size, 24, #[.int .i64 (n : Int), .slice A f.xs.length c, .int .i64 f.R, .int .i64 f.T])]) (fun iv _ => n - (intOf iv).toNat)
      case atStart => exact ⟨0, Nat.zero_le _, rfl, K3.out⟩
      case round =>
        obtain ⟨i, hi, rfl, hK⟩ := hrel
        have KA := Lib.hid hK
        clear hK
        by_cases hin : (i : Int) < (n : Int)
        · have hin2 : i < n := by omega
          have k8 := KA.out.pushz
          obtain ⟨E8, hE8⟩ : ∃ E8, E8 = wr.alloc (.cells #[.bool false, .slice none 0 0, .int .i64 0] 38) := ⟨_, rfl⟩
          rw [← hE8] at k8
          obtain ⟨g8, hg8, k8⟩ := k8.name
          have K8 := Lib.hid k8
          have HE8 := Lib.hid hE8
          have HG8 := Lib.hid hg8
          clear k8 hE8 hg8
          go_wp2_with fail
          rw [← HE8.out, HG8.out]
          clear HE8 HG8
          go_loopw [12] (fun jv wr => ∃ (j : Nat) (d8 : Dy) (A8 : Option Addr) (c8 : Nat), i ≤ j ∧ j ≤ n ∧ jv = .int .i64 (j : Int) ∧ KeepD w wr [(g8, d8, A8, c8)] [(some ⟨bw, ow, none⟩, l, c2), (some ⟨bl, ol, none⟩, L, c1), (A, f.xs, c)] [(gs, 48, #[.int .i64 free, .float .f64 rest, .float .f64 tot, .float .f64 va, .float .f64 fit]), (w.heap.size, 24, #[.int .i64 (n : Int), .slice A f.xs.length c, .int .i64 f.R, .int .i64 f.T])] ∧ d8.v = Qr i (j - i)) (fun jv _ => n - (intOf jv).toNat)
          case atStart => exact ⟨i, Dy.zero, none, 0, Nat.le_refl _, by omega, rfl, K8.out, by rw [Nat.sub_self, HQ0.out]; exact Dy.zero_v⟩
          case round =>
            rename_i wa
            obtain ⟨j, d8, A8, c8, hij, hj, rfl, hK, hv8⟩ := hrel
            have KI := Lib.hid hK
            have HV8 := Lib.hid hv8
            clear hK hv8
            by_cases hjn : (j : Int) < (n : Int)
            · have hjn2 : j < n := by omega
              have HNW := Lib.hid (HEW.out i j hij hjn2)
              have HNM := Lib.hid (HMW.out i j hij hjn2)
              have HNA := Lib.hid (HAW.out i j hij hjn2)
              have HNT := Lib.hid (HATT.out i j hij hjn2)
              have hP := HIN.out i j hij hjn2
              have hPl : st n i + (j - i) < l.length := by have := HLZ.out; omega
              have hPz : ((st n i + (j - i) : Nat) : Int) < ((l.length : Nat) : Int) := by omega
              have hPw := HAT.out i j hij hjn2 (by omega)
              have HSQ := Lib.hid (HQ1.out i j hij)
              have HPW := Lib.hid hPw
              have HPL := Lib.hid hPl
              generalize st n i + (j - i) = P at *
              generalize wS g i j = xw at *
              generalize fv xw = vw at *
              generalize vw * vw = pr at *
              clear hP hPw hPl
              go_wp2_with fail
              refine (HNT.out _).mono ?_
              rintro e w' ⟨rfl, rfl⟩
              have hcw := arg_cell (KI.out.arg (.head _)) HPL.out
              rw [HPW.out] at hcw
              go_wp2_with fail
              clear hcw
              refine (HNW.out _).mono ?_
              rintro e w13 ⟨⟨v, rfl, hv⟩, hb13⟩
              obtain ⟨d13, A13, c13, rfl, ha13, hv13⟩ := hv.a
              have k13 := (KI.out.call hb13).push ha13
              obtain ⟨E13, hE13⟩ : ∃ E13, E13 = w13.alloc (.cells #[.bool d13.neg, .slice A13 (nd d13.n).length c13, .int .i64 d13.e] 38) := ⟨_, rfl⟩
              rw [← hE13] at k13
              obtain ⟨g13, hg13, k13⟩ := k13.name
              have K13 := Lib.hid k13
              have HE13 := Lib.hid hE13
              have HX13 := Lib.hid hv13
              have HG13 := Lib.hid hg13
              unfold dyV
              clear hv ha13 hb13 k13 hE13 hv13 hg13
              go_wp2_with fail
              rw [← HE13.out, HG13.out]
              clear HE13
              have HD13 := Lib.hid (fun Y (h : Below E13.heap.size E13 Y) => show DyV Y (dyV d13 A13 c13) vw from (by have := ((K13.out.call h).val (.head _)).v; rw [HX13.out] at this; exact this))
              have HD8 := Lib.hid (fun Y (h : Below E13.heap.size E13 Y) => show DyV Y (dyV d8 A8 c8) (Qr i (j - i)) from (by have := ((K13.out.call h).val (.tail _ (.head _))).v; rw [HV8.out] at this; exact this))
              have HNB := Lib.hid (fun Y (h : Below E13.heap.size E13 Y) => HNM.out Y _ _ (HD13.out Y h) (HD13.out Y h))
              have HND := Lib.hid (fun Y u2 (h : Below E13.heap.size E13 Y) h2 => HNA.out Y _ u2 (HD8.out Y h) h2)
              unfold dyV at HNB HND
              obtain ⟨b0, b1, b2⟩ := (K13.out.box (.tail _ (.head _))).c3
              obtain ⟨q0, q1, q2⟩ := (K13.out.box (.head _)).c3
              go_region_with (first
                | (go_at_call 21; (refine (HNB.out _ ?_).mono ?_); (exact (by repeat (first | assumption | exact Below.refl _ _ | refine Below.allocs ?_ _ | refine Below.drews ?_ | refine Below.chain ?_ (by assumption)))); rintro e y3 ⟨⟨v, rfl, hav⟩, hb3⟩; obtain ⟨d3, A3, c3, rfl, ha3, hv3⟩ := hav.a; have hbA : Below E13.heap.size E13 y3 := (Below.chain (by repeat (first | assumption | exact Below.refl _ _ | refine Below.allocs ?_ _ | refine Below.drews ?_ | refine Below.chain ?_ (by assumption))) hb3); obtain ⟨b0, b1, b2⟩ := ((K13.out.call hbA).box (.tail _ (.head _))).c3; unfold dyV at *)
                | (go_at_call 26; (refine (HND.out _ _ ?_ ?_).mono ?_); (exact (by repeat (first | assumption | exact Below.refl _ _ | refine Below.allocs ?_ _ | refine Below.drews ?_ | refine Below.chain ?_ (by assumption)))); (exact (hav.below (by repeat (first | assumption | exact Below.refl _ _ | refine Below.allocs ?_ _ | refine Below.drews ?_ | refine Below.chain ?_ (by assumption))))); rintro e y4 ⟨⟨v, rfl, hsv⟩, hb4⟩; obtain ⟨d5, A5, c5, rfl, ha5, hv5⟩ := hsv.a; have hbX : Below E13.heap.size E13 y4 := (Below.chain (by repeat (first | assumption | exact Below.refl _ _ | refine Below.allocs ?_ _ | refine Below.drews ?_ | refine Below.chain ?_ (by assumption))) hb4); obtain ⟨z0, z1, z2⟩ := ((K13.out.call hbX).box (.tail _ (.head _))).c3; obtain ⟨f0, f1, f2⟩ := ((K13.out.call hbX).box (.tail _ (.head _))).f3; unfold dyV at *))
              all_goals
                have KZ := Lib.hid ((K13.out.call hbX).store (.tail _ (.head _)) (L' := []) (fun y hy => absurd hy List.not_mem_nil) ha5)
                have HV5 := Lib.hid (hv5.trans HSQ.out.symm)
                clear ha5 hv5
                go_wp2
                go_roundw
                case rel => exact ⟨j + 1, d5, A5, c5, by omega, by omega, by go_num, KZ.out, HV5.out⟩
                case measure => simp [intOf]; omega
            · obtain rfl : n = j := by omega
              have HNV := Lib.hid (HMV.out i hin2)
              have HNTI := Lib.hid (HTI.out i hin2)
              have HNM2 := Lib.hid (HM2.out i hin2)
              have HNA2 := Lib.hid (HA2.out i hin2)
              have HNL := Lib.hid (HML.out i hin2)
              have HNS := Lib.hid (HSL.out i hin2)
              have HNE := Lib.hid (HEL.out i hin2)
              have hq := HQQ.out i hin2
              have hfl := (HFL.out i hin2).2
              have HQD := Lib.hid hq
              have HFD := Lib.hid hfl
              have hLi : i < L.length := by have := HLL.out; omega
              have HLC := Lib.hid (fun Y (h : SlArg Y (some ⟨bl, ol, none⟩) L c1) => arg_cell h hLi)
              have hLv := HLVV.out i hin2
              rw [hLv] at HLC
              have hLi2 : (i : Int) < ((L.length : Nat) : Int) := by omega
              have HCM := Lib.hid (fun W u1 u2 h1 h2 => cmp03_any u1 u2 (ab (fv (lf i) * fv (lf i) - fv va * Qr i (n - i))) (fv va * Qr i (n - i) * ((n + 10 : Nat) : Rat) * pw (-53) + pw (-2040)) W h1 h2)
              have HAB := Lib.hid (fun W u1 h1 => abs03_any u1 (fv (lf i) * fv (lf i) - fv va * Qr i (n - i)) W h1)
              generalize cmpQ (ab (fv (lf i) * fv (lf i) - fv va * Qr i (n - i))) (fv va * Qr i (n - i) * ((n + 10 : Nat) : Rat) * pw (-53) + pw (-2040)) = cq at *
              generalize fv (lf i) * fv (lf i) - fv va * Qr i (n - i) = P7 at *
              generalize fv va * Qr i (n - i) * ((n + 10 : Nat) : Rat) * pw (-53) + pw (-2040) = P4 at *
              generalize fv va * Qr i (n - i) * ((n + 10 : Nat) : Rat) * pw (-53) = P3 at *
              generalize fv va * Qr i (n - i) * ((n + 10 : Nat) : Rat) = P2 at *
              generalize fv va * Qr i (n - i) = P1 at *
              generalize fv (lf i) * fv (lf i) = P5 at *
              generalize lf i = xl at *
              generalize Qr i (n - i) = QE at *
              generalize fv xl = vl at *
              generalize fv va = vv9 at *
              clear hq hfl hLv hLi
              have HKE := Lib.hid (fun Y (h : Below wr.heap.size wr Y) => And.intro (show Y.cell? ⟨gs, 3, none⟩ = some (.float .f64 va) from ((KI.out.call h).other (.head _)).cell 3) (And.intro ((KI.out.call h).box (.head _)).c3 h))
              have HD8 := Lib.hid (fun Y (h : Below wr.heap.size wr Y) => show DyV Y (dyV d8 A8 c8) QE from (by have := ((KI.out.call h).val (.head _)).v; rw [HV8.out] at this; exact this))
              unfold dyV at HD8
              go_wp2_with fail
              go_cut [14] from 64 to 126 (fun s14 wx => ∃ (g14 : Nat) (d14 : Dy) (A14 : Option Addr) (c14 : Nat), s14 = .pointer (some ⟨g14, 0, none⟩) ∧ KeepD w wx [(g14, d14, A14, c14), (g8, d8, A8, c8)] [(some ⟨bw, ow, none⟩, l, c2), (some ⟨bl, ol, none⟩, L, c1), (A, f.xs, c)] [(gs, 48, #[.int .i64 free, .float .f64 rest, .float .f64 tot, .float .f64 va, .float .f64 fit]), (w.heap.size, 24, #[.int .i64 (n : Int), .slice A f.xs.length c, .int .i64 f.R, .int .i64 f.T])] ∧ d14.v = P1)
              case first =>
                go_region_held3 (fun Y => (Y.cell? ⟨gs, 3, none⟩ = some (.float .f64 va) ∧ (Y.cell? ⟨g8, 0, none⟩ = some (.bool d8.neg) ∧ Y.cell? ⟨g8, 1, none⟩ = some (.slice A8 (nd d8.n).length c8) ∧ Y.cell? ⟨g8, 2, none⟩ = some (.int .i64 d8.e)) ∧ Below wr.heap.size wr Y))
                  ((refine HKE.out _ ?_; first | (refine Below.setCell (Below.setCell (Below.setCell hbW (by exact bz.ge) _) (by exact bz.ge) _) (by exact bz.ge) _) | (repeat (first | assumption | exact Below.refl _ _ | refine Below.allocs ?_ _ | refine Below.drews ?_ | refine Below.chain ?_ (by assumption)))))
                  (first
                    | (go_at_call 22; (with_reducible refine (HEV.out _).mono ?_); rintro e y1 ⟨⟨v, rfl, hxv⟩, hb1⟩; obtain ⟨d1, A1, c1, rfl, ha1, hv1⟩ := hxv.a; unfold dyV at *; (first | (have bz := ownZ_new (W := wr) (by repeat (first | assumption | exact Below.refl _ _ | refine Below.allocs ?_ _ | refine Below.drews ?_ | refine Below.chain ?_ (by assumption))) hb1) | (have bz := ownZ_newd (W := wr) (by repeat (first | assumption | exact Below.refl _ _ | refine Below.allocs ?_ _ | refine Below.drews ?_ | refine Below.chain ?_ (by assumption))) hb1) | (have bz := bz.call hb1) | skip); (try (obtain ⟨x0, x1, x2⟩ := bz.bk.c3; obtain ⟨z0, z1, z2⟩ := bz.bk.f3)))
                    | (go_at_call 21; (with_reducible refine (HNV.out _ _ _ (hxv.below (by repeat (first | assumption | exact Below.refl _ _ | refine Below.allocs ?_ _ | refine Below.drews ?_ | refine Below.chain ?_ (by assumption)))) (HD8.out _ (by repeat (first | assumption | exact Below.refl _ _ | refine Below.allocs ?_ _ | refine Below.drews ?_ | refine Below.chain ?_ (by assumption))))).mono ?_); rintro e y2 ⟨⟨v, rfl, hmv⟩, hb2⟩; obtain ⟨d2, A2, c2, rfl, ha2, hv2⟩ := hmv.a; unfold dyV at *; (first | (have bz := ownZ_new (W := wr) (by repeat (first | assumption | exact Below.refl _ _ | refine Below.allocs ?_ _ | refine Below.drews ?_ | refine Below.chain ?_ (by assumption))) hb2) | (have bz := ownZ_newd (W := wr) (by repeat (first | assumption | exact Below.refl _ _ | refine Below.allocs ?_ _ | refine Below.drews ?_ | refine Below.chain ?_ (by assumption))) hb2) | (have bz := bz.call hb2) | skip); (try (obtain ⟨x0, x1, x2⟩ := bz.bk.c3; obtain ⟨z0, z1, z2⟩ := bz.bk.f3)); have hbW : Below wr.heap.size wr y2 := (Below.chain (by repeat (first | assumption | exact Below.refl _ _ | refine Below.allocs ?_ _ | refine Below.drews ?_ | refine Below.chain ?_ (by assumption))) hb2)))
                all_goals
                  have HBW := Lib.hid hbW; have HA := Lib.hid ha2; have HVV := Lib.hid hv2
                  go_wp2_with fail
                  go_meet
                  first
                  | exact ⟨_, d2, A2, c2, rfl, (KI.out.call HBW.out).push HA.out, HVV.out⟩
                  | exact ⟨_, d2, A2, c2, rfl, KI.out.fill HBW.out bz HA.out, HVV.out⟩
              case rest =>
                obtain ⟨g14, d14, A14, c14, rfl, hK, hv14⟩ := hcut
                have KC := Lib.hid hK; have HV14 := Lib.hid hv14
                obtain ⟨b0, b1, b2⟩ := (hK.box (.head _)).c3
                have HD14 := Lib.hid (show DyV wc (dyV d14 A14 c14) P1 by have := (hK.val (.head _)).v; rw [hv14] at this; exact this)
                unfold dyV at HD14
                clear hK hv14 HKE HD8
                go_wp2_with fail
                clear b0 b1 b2
                refine (HNTI.out _ _ HD14.out).mono ?_
                rintro e w21 ⟨⟨v, rfl, hv⟩, hb21⟩
                have K21 := Lib.hid (KC.out.call hb21)
                obtain ⟨d21, A21, c21, rfl, ha21, hv21⟩ := hv.a
                have HV21 := Lib.hid hv
                unfold dyV at HV21 ⊢
                clear hv ha21 hv21 hb21
                go_wp2_with fail
                refine (HP53.out _).mono ?_
                rintro e w22 ⟨⟨v, rfl, hv⟩, hb22⟩
                have K22 := Lib.hid (K21.out.call hb22)
                have hk21 := HV21.out.below hb22
                clear HV21
                have HV21 := Lib.hid hk21
                clear hk21
                obtain ⟨d22, A22, c22, rfl, ha22, hv22⟩ := hv.a
                have HV22 := Lib.hid hv
                unfold dyV at HV22 ⊢
                clear hv ha22 hv22 hb22
                go_wp2_with fail
                refine (HNM2.out _ _ _ HV21.out HV22.out).mono ?_
                rintro e w23 ⟨⟨v, rfl, hv⟩, hb23⟩
                have K23 := Lib.hid (K22.out.call hb23)
                obtain ⟨d23, A23, c23, rfl, ha23, hv23⟩ := hv.a
                have HV23 := Lib.hid hv
                unfold dyV at HV23 ⊢
                clear hv ha23 hv23 hb23
                go_wp2_with fail
                refine (HP2040.out _).mono ?_
                rintro e w24 ⟨⟨v, rfl, hv⟩, hb24⟩
                have K24 := Lib.hid (K23.out.call hb24)
                have hk23 := HV23.out.below hb24
                clear HV23
                have HV23 := Lib.hid hk23
                clear hk23
                obtain ⟨d24, A24, c24, rfl, ha24, hv24⟩ := hv.a
                have HV24 := Lib.hid hv
                unfold dyV at HV24 ⊢
                clear hv ha24 hv24 hb24
                go_wp2_with fail
                refine (HNA2.out _ _ _ HV23.out HV24.out).mono ?_
                rintro e w15 ⟨⟨v, rfl, hv⟩, hb15⟩
                obtain ⟨d15, A15, c15, rfl, ha15, hv15⟩ := hv.a
                have k15 := (K24.out.call hb15).push ha15
                obtain ⟨E15, hE15⟩ : ∃ E15, E15 = w15.alloc (.cells #[.bool d15.neg, .slice A15 (nd d15.n).length c15, .int .i64 d15.e] 38) := ⟨_, rfl⟩
                rw [← hE15] at k15
                obtain ⟨g15, hg15, k15⟩ := k15.name
                have K15 := Lib.hid k15
                have HE15 := Lib.hid hE15
                have HX15 := Lib.hid hv15
                have HG15 := Lib.hid hg15
                unfold dyV
                clear hv ha15 hb15 k15 hE15 hv15 hg15
                go_wp2_with fail
                rw [← HE15.out, HG15.out]
                clear HE15
                have HKE := Lib.hid (fun Y (h : Below E15.heap.size E15 Y) => And.intro (HLC.out Y ((K15.out.call h).arg (.tail _ (.head _)))) h)
                go_cut [16] from 64 to 126 (fun s16 wx => ∃ (g16 : Nat) (d16 : Dy) (A16 : Option Addr) (c16 : Nat), s16 = .pointer (some ⟨g16, 0, none⟩) ∧ KeepD w wx [(g16, d16, A16, c16), (g15, d15, A15, c15), (g14, d14, A14, c14), (g8, d8, A8, c8)] [(some ⟨bw, ow, none⟩, l, c2), (some ⟨bl, ol, none⟩, L, c1), (A, f.xs, c)] [(gs, 48, #[.int .i64 free, .float .f64 rest, .float .f64 tot, .float .f64 va, .float .f64 fit]), (w.heap.size, 24, #[.int .i64 (n : Int), .slice A f.xs.length c, .int .i64 f.R, .int .i64 f.T])] ∧ d16.v = P5)
                case first =>
                  go_region_held3 (fun Y => (Y.cell? ⟨bl, ol + i, none⟩ = some (.float .f64 xl) ∧ Below E15.heap.size E15 Y))
                    ((refine HKE.out _ ?_; first | (refine Below.setCell (Below.setCell (Below.setCell hbW (by exact bz.ge) _) (by exact bz.ge) _) (by exact bz.ge) _) | (repeat (first | assumption | exact Below.refl _ _ | refine Below.allocs ?_ _ | refine Below.drews ?_ | refine Below.chain ?_ (by assumption)))))
                    (first
                      | (go_at_call 22; (with_reducible refine (HNE.out _).mono ?_); rintro e y1 ⟨⟨v, rfl, hxv⟩, hb1⟩; obtain ⟨d1, A1, c1, rfl, ha1, hv1⟩ := hxv.a; unfold dyV at *; (first | (have bz := ownZ_new (W := E15) (by repeat (first | assumption | exact Below.refl _ _ | refine Below.allocs ?_ _ | refine Below.drews ?_ | refine Below.chain ?_ (by assumption))) hb1) | (have bz := ownZ_newd (W := E15) (by repeat (first | assumption | exact Below.refl _ _ | refine Below.allocs ?_ _ | refine Below.drews ?_ | refine Below.chain ?_ (by assumption))) hb1) | (have bz := bz.call hb1) | skip); (try (obtain ⟨x0, x1, x2⟩ := bz.bk.c3; obtain ⟨z0, z1, z2⟩ := bz.bk.f3)))
                      | (go_at_call 21; (refine (HNL.out _ _ _ ?_ ?_).mono ?_); (· refine DyV.below (by assumption) ?_; repeat (first | assumption | exact Below.refl _ _ | refine Below.allocs ?_ _ | refine Below.drews ?_ | refine Below.chain ?_ (by assumption))); (· refine DyV.below (by assumption) ?_; repeat (first | assumption | exact Below.refl _ _ | refine Below.allocs ?_ _ | refine Below.drews ?_ | refine Below.chain ?_ (by assumption))); rintro e y2 ⟨⟨v, rfl, hmv⟩, hb2⟩; obtain ⟨d2, A2, c2, rfl, ha2, hv2⟩ := hmv.a; unfold dyV at *; (first | (have bz := ownZ_new (W := E15) (by repeat (first | assumption | exact Below.refl _ _ | refine Below.allocs ?_ _ | refine Below.drews ?_ | refine Below.chain ?_ (by assumption))) hb2) | (have bz := ownZ_newd (W := E15) (by repeat (first | assumption | exact Below.refl _ _ | refine Below.allocs ?_ _ | refine Below.drews ?_ | refine Below.chain ?_ (by assumption))) hb2) | (have bz := bz.call hb2) | skip); (try (obtain ⟨x0, x1, x2⟩ := bz.bk.c3; obtain ⟨z0, z1, z2⟩ := bz.bk.f3)); have hbW : Below E15.heap.size E15 y2 := (Below.chain (by repeat (first | assumption | exact Below.refl _ _ | refine Below.allocs ?_ _ | refine Below.drews ?_ | refine Below.chain ?_ (by assumption))) hb2)))
                  all_goals
                    have HBW := Lib.hid hbW; have HA := Lib.hid ha2; have HVV := Lib.hid hv2
                    go_wp2_with fail
                    go_meet
                    first
                    | exact ⟨_, d2, A2, c2, rfl, (K15.out.call HBW.out).push HA.out, HVV.out⟩
                    | exact ⟨_, d2, A2, c2, rfl, K15.out.fill HBW.out bz HA.out, HVV.out⟩
                case rest =>
                  obtain ⟨g16, d16, A16, c16, rfl, hK, hv16⟩ := hcut
                  have KD := Lib.hid hK; have HV16 := Lib.hid hv16
                  clear hK hv16 HKE
                  have HKE := Lib.hid (fun Y (h : Below wc.heap.size wc Y) => And.intro (HLC.out Y ((KD.out.call h).arg (.tail _ (.head _)))) (And.intro ((KD.out.call h).box (.head _)).c3 (And.intro ((KD.out.call h).box (.tail _ (.head _))).c3 (And.intro ((KD.out.call h).box (.tail _ (.tail _ (.head _)))).c3 h))))
                  have HNZ := Lib.hid (fun Y (h : Below wc.heap.size wc Y) => HNS.out Y _ _ (by have := ((KD.out.call h).val (.head _)).v; rw [HV16.out] at this; exact this) (by have := ((KD.out.call h).val (.tail _ (.tail _ (.head _)))).v; rw [HV14.out] at this; exact this))
                  have HNC := Lib.hid (fun Y u1 (h : Below wc.heap.size wc Y) h1 => HCM.out Y u1 _ h1 (by have := ((KD.out.call h).val (.tail _ (.head _))).v; rw [HX15.out] at this; exact this))
                  unfold dyV at HNZ HNC
                  have hq := HQD.out
                  have hfl := HFD.out
                  have hcl := HLC.out wc (KD.out.arg (.tail _ (.head _)))
                  go_wp2_with fail
                  go_region_held3 (fun Y => (Y.cell? ⟨bl, ol + i, none⟩ = some (.float .f64 xl) ∧ (Y.cell? ⟨g16, 0, none⟩ = some (.bool d16.neg) ∧ Y.cell? ⟨g16, 1, none⟩ = some (.slice A16 (nd d16.n).length c16) ∧ Y.cell? ⟨g16, 2, none⟩ = some (.int .i64 d16.e)) ∧ (Y.cell? ⟨g15, 0, none⟩ = some (.bool d15.neg) ∧ Y.cell? ⟨g15, 1, none⟩ = some (.slice A15 (nd d15.n).length c15) ∧ Y.cell? ⟨g15, 2, none⟩ = some (.int .i64 d15.e)) ∧ (Y.cell? ⟨g14, 0, none⟩ = some (.bool d14.neg) ∧ Y.cell? ⟨g14, 1, none⟩ = some (.slice A14 (nd d14.n).length c14) ∧ Y.cell? ⟨g14, 2, none⟩ = some (.int .i64 d14.e)) ∧ Below wc.heap.size wc Y))
                    ((refine HKE.out _ ?_; (repeat (first | assumption | exact Below.refl _ _ | refine Below.allocs ?_ _ | refine Below.drews ?_ | refine Below.chain ?_ (by assumption)))))
                    (first
                      | (go_at_call 25; (refine (HNZ.out _ (by repeat (first | assumption | exact Below.refl _ _ | refine Below.allocs ?_ _ | refine Below.drews ?_ | refine Below.chain ?_ (by assumption)))).mono ?_); rintro e y3 ⟨⟨v, rfl, hzv⟩, hb3⟩; obtain ⟨d3, A3, c3, rfl, ha3, hv3⟩ := hzv.a; unfold dyV at *)
                      | (go_at_call 27; (refine (HAB.out _ _ (hzv.below (by repeat (first | assumption | exact Below.refl _ _ | refine Below.allocs ?_ _ | refine Below.drews ?_ | refine Below.chain ?_ (by assumption))))).mono ?_); rintro e y4 ⟨⟨v, rfl, hav⟩, hb4⟩; obtain ⟨d4, A4, c4, rfl, ha4, hv4⟩ := hav.a; unfold dyV at *)
                      | (go_at_call 29; (with_reducible refine (HNC.out _ _ (by repeat (first | assumption | exact Below.refl _ _ | refine Below.allocs ?_ _ | refine Below.drews ?_ | refine Below.chain ?_ (by assumption))) (hav.below (by repeat (first | assumption | exact Below.refl _ _ | refine Below.allocs ?_ _ | refine Below.drews ?_ | refine Below.chain ?_ (by assumption))))).mono ?_); rintro e y5 ⟨rfl, hb5⟩; have hbE : Below wc.heap.size wc y5 := (Below.chain (by repeat (first | assumption | exact Below.refl _ _ | refine Below.allocs ?_ _ | refine Below.drews ?_ | refine Below.chain ?_ (by assumption))) hb5)))
                  all_goals
                    have HK := Lib.hid ((KD.out.call hbE).few (L' := []) (fun y hy => absurd hy List.not_mem_nil) (fun y hy => hy) (fun y hy => hy))
                    go_wp2
                    go_roundw
                    case rel => exact ⟨i + 1, by omega, by go_num, HK.out⟩
                    case measure => simp [intOf]; omega
        · go_wp2_with fail
          refine (HLV.out _).mono ?_
          rintro e w9 ⟨rfl, hb⟩
          have HB := Lib.hid (KA.out.call hb).below
          clear hb
          go_wp2
          go_ret
          exact ⟨rfl, HB.out⟩
    · have t0 : (errE f != 0) = true := by rw [bne_iff_ne]; exact hE
      have HER := Lib.hid her
      unfold facV at HER ⊢
      clear hx k0 her hE
      generalize errE f = E at *
      generalize errL f = l at *
      go_enter Try.func7, Try.ntmps7
      go_wp2_with fail
      refine (HER.out _ (K0.out.arg (.head _))).mono ?_
      rintro e w1 ⟨⟨v, rfl, _⟩, hb1⟩
      have K1 := Lib.hid (K0.out.call hb1)
      clear hb1
      go_wp2_with fail
      refine (HLV.out _).mono ?_
      rintro e w6 ⟨rfl, hb6⟩
      have HB := Lib.hid (K1.out.call hb6).below
      clear hb6
      go_wp2
      go_ret
      exact ⟨rfl, HB.out⟩
end Go.Proofs.Ytigacobphgeeaaa
