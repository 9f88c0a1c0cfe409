/- The walk of InverseNear. -/
import Derived.Test.YtigacobphgeeaaaXx9
import Derived.Test.YtigacobphgeeaaaXw9
set_option linter.unusedVariables false
namespace Lev
def nearD (g : Nat → Nat → Nat) (i j k : Nat) : Rat := invD g i j (k - i)
def nearZ (g : Nat → Nat → Nat) (i j k : Nat) : Rat := invZ g i j (k - i)
theorem nearD_0 (g : Nat → Nat → Nat) (i j : Nat) : nearD g i j i = if i = j then 1 else 0 := by
  unfold nearD invD; rw [Nat.sub_self]; show _ - (0 : Rat) = _; split <;> grind
theorem nearZ_0 (g : Nat → Nat → Nat) (i j : Nat) : nearZ g i j i = 0 := by unfold nearZ invZ; rw [Nat.sub_self]; rfl
theorem nearD_1 (g : Nat → Nat → Nat) (i j k : Nat) (h : i ≤ k) : nearD g i j (k + 1) = nearD g i j k - fv (g i k) * fv (wS g k j) := by
  unfold nearD invD
  rw [show k + 1 - i = (k - i) + 1 from by omega]
  show _ - (sumR (invP g i j) (k - i) + invP g i j (k - i)) = _
  have : invP g i j (k - i) = fv (g i k) * fv (wS g k j) := by unfold invP; rw [show i + (k - i) = k from by omega]
  rw [this]; grind
theorem nearZ_1 (g : Nat → Nat → Nat) (i j k : Nat) (h : i ≤ k) : nearZ g i j (k + 1) = nearZ g i j k + ab (fv (g i k) * fv (wS g k j)) := by
  unfold nearZ invZ
  rw [show k + 1 - i = (k - i) + 1 from by omega]
  show sumR (fun k => ab (invP g i j k)) (k - i) + ab (invP g i j (k - i)) = _
  have : invP g i j (k - i) = fv (g i k) * fv (wS g k j) := by unfold invP; rw [show i + (k - i) = k from by omega]
  rw [this]
theorem R_one : R 0 1 1 := by have := R_pw (a := 0) (b := 1) (k := 0) (by omega) (by omega); rwa [pw_zero] at this
theorem near_R {g : Nat → Nat → Nat} {n i j k : Nat} (hg : ∀ i j, fin (g i j)) (hw : ∀ i j, i ≤ j → j < n → rg (wS g i j) < INF) (hj : j < n) (hn : n ≤ 6) (hk : k ≤ j + 1) (hi : i ≤ k) : R 2148 2060 (nearD g i j k) ∧ R 2148 2060 (nearZ g i j k) := by
  have hp : ∀ m, m < k - i → R 2148 2050 (invP g i j m) := fun m hm => R_mul (a := 1074) (b := 1025) (c := 1074) (d := 1025) (R_fv (hg _ _)) (R_fv (hw (i + m) j (by omega) hj))
  have hs := R_sum (t := invP g i j) (k - i) hp
  have hz := R_sum (t := fun m => ab (invP g i j m)) (k - i) (fun m hm => R_ab (hp m hm))
  refine ⟨?_, R_mono hz (by omega) (by omega)⟩
  unfold nearD invD
  refine R_mono (R_sub (a := 2148) (b := 2058) ?_ (R_mono hs (by omega) (by omega))) (by omega) (by omega)
  split
  · exact R_mono R_one (by omega) (by omega)
  · exact R_zero _ _
theorem natF {n : Nat} (h : n ≤ 6) : fin (Go.floatOfInt .f64 (n : Int)) ∧ Go.floatOfInt .f64 (n : Int) < 18446744073709551616 ∧ fv (Go.floatOfInt .f64 (n : Int)) = (n : Rat) := by
  obtain ⟨r, hr, he, hv⟩ := ofInt_whole (M := n) (by omega)
  obtain ⟨a1, a2, a3⟩ := pos_word (Nat.le_of_lt hr)
  rw [he]
  refine ⟨by unfold fin; omega, a3, ?_⟩
  rw [fv_pos a2, a1, hv]
theorem cmpQ_ngt {x y : Rat} (h : x ≤ y) : decide (0 < cmpQ x y) = false := by
  rw [decide_eq_false_iff_not]
  have := cmpQ_le.2 h
  omega
end Lev
namespace Go.Proofs.Ytigacobphgeeaaa
open Go.RowKit Go.Shelf Lev

theorem arg_cell {Y : World} {b o c P : Nat} {xs : List Nat} (h : SlArg Y (some ⟨b, o, none⟩) xs c) (hP : P < xs.length) : Y.cell? ⟨b, o + P, none⟩ = some (.float .f64 (xs[P]?.getD 0)) := by
  obtain ⟨bb, ob, hB, _, hcb⟩ := h.reads.2 (by omega)
  cases hB
  exact hcb P hP

set_option maxRecDepth 100000 in
set_option maxHeartbeats 8000000 in
theorem inverseNear (f : Fct) (A : Option Addr) (c : Nat) (w : World) (hx : SlArg w A f.xs c) :
    Calls Try.prog 5 #[facV f.C A f.xs.length c f.R f.T] w fun e w' => e = .returned (.bool true) ∧ Below w.heap.size w w' := by
  have HLV := Lib.hid (fun W => live18 W)
  have k0 := ((KeepD.start w).more hx).pusho #[.int .i64 f.C, .slice A f.xs.length c, .int .i64 f.R, .int .i64 f.T] 24 (by decide)
  have K0 := Lib.hid k0
  have hl63 : f.xs.length ≤ 9223372036854775807 := Nat.le_trans hx.cap hx.room
  have hro := fun W h => Rows_any f A c W h
  by_cases h60 : (60 : Int) < (f.xs.length : Int)
  · unfold facV
    clear hx k0 hro
    go_enter Try.func5, Try.ntmps5
    go_wp2_with fail
    refine (HLV.out _).mono ?_
    rintro e w1 ⟨rfl, hb⟩
    have HB := Lib.hid (K0.out.call hb).below
    clear hb
    go_wp2
    go_ret
    exact ⟨rfl, HB.out⟩
  · by_cases hE : invE f = 0
    · have hok : f.ok = true := by
        cases e : f.ok
        · exact absurd hE (by unfold invE; rw [if_pos e]; decide)
        · rfl
      have hcl := ok_len hok
      obtain ⟨n, hn⟩ : ∃ n : Nat, f.C = (n : Int) := ⟨f.C.toNat, by omega⟩
      have hn6 : 1 ≤ n ∧ n ≤ 6 := by omega
      have hCn : f.C.toNat = n := by omega
      obtain ⟨_, hfw, _⟩ := invE_nw hE hn
      have hlaw := fun i j h1 h2 => near_law (i := i) (j := j) hn hE h1 h2
      have hrs : rowsS f = rowsL (wS (gS f)) n n := by unfold rowsS; rw [if_pos hE, hCn]
      have hgf : ∀ i j, fin (gS f i j) := fun i j => gS_fin hok i j
      have hglt : ∀ i j, gS f i j < 18446744073709551616 := fun i j => getS_lt hx.reads.1 (i : Int) (j : Int)
      have hwlt : ∀ i j, wS (gS f) i j < 18446744073709551616 := fun i j => wS_lt _ _ _
      have hget := fun (i j : Nat) W h => rget_any f A c (i : Int) (j : Int) W h
      have hgg : ∀ i j : Nat, getS f (i : Int) (j : Int) = gS f i j := fun _ _ => rfl
      simp only [hgg] at hget
      have hS := rowsL_length (wS (gS f)) n n (Nat.le_refl _)
      have hat := fun i j h1 h2 h3 => rowsL_at (wS (gS f)) (n := n) (i := i) (j := j) h1 h2 n (Nat.le_refl _) h3
      have hin : ∀ i j, i ≤ j → j < n → st n i + (j - i) < st n n := fun i j h1 h2 => st_in (by omega) (by omega)
      have hst := st_all n
      have hst36 : st n n ≤ 36 := by have := Nat.mul_le_mul hn6.2 hn6.2; omega
      have hst1 : 1 ≤ st n n := by have := hin 0 0 (Nat.le_refl _) (by omega); omega
      rw [hrs, hE] at hro
      unfold facV at hro hget ⊢
      rw [hn] at hro hget K0 ⊢
      generalize gS f = g at *
      have hNR := fun i j k h1 h2 h3 => near_R (g := g) (n := n) (i := i) (j := j) (k := k) hgf hfw h1 hn6.2 h2 h3
      obtain ⟨nf1, nf2, nf3⟩ := natF hn6.2
      have hlaw2 : ∀ i j, i ≤ j → j < n → decide (0 < cmpQ (ab (nearD g i j (j + 1))) (nearZ g i j (j + 1) * ((n + 2 : Nat) : Rat) * pw (-53) + ((n : Rat) + fv (g i i)) * pw (-1070))) = false := fun i j h1 h2 => by
        refine cmpQ_ngt ?_
        have := hlaw i j h1 h2
        rw [show j - i + 1 = j + 1 - i from by omega] at this
        exact this
      have HNE := Lib.hid (fun W => exact18_any (Go.floatOfInt .f64 (n : Int)) nf2 nf1 W)
      rw [nf3] at HNE
      have hnR : R 0 10 (n : Rat) := R_nat (by rw [show (10 : Int) = ((10 : Nat) : Int) from rfl, pw_nat]; exact cast_lt.2 (by omega))
      have hn2R : R 0 10 ((n + 2 : Nat) : Rat) := R_nat (by rw [show (10 : Int) = ((10 : Nat) : Int) from rfl, pw_nat]; exact cast_lt.2 (by omega))
      have hp0 := fun W => pow04_any 0 (by omega) (by omega) W
      rw [pw_zero] at hp0
      have HP0 := Lib.hid hp0
      have HP53 := Lib.hid (fun W => pow04_any (-53) (by omega) (by omega) W)
      have HP1070 := Lib.hid (fun W => pow04_any (-1070) (by omega) (by omega) W)
      have HEX := Lib.hid (fun i j W => exact18_any (g i j) (hglt i j) (hgf i j) W)
      have HEW := Lib.hid (fun i j (h1 : i ≤ j) (h2 : j < n) W => exact18_any (wS g i j) (hwlt i j) (hfw i j h1 h2) W)
      have HMU := Lib.hid (fun i j k (h1 : k ≤ j) (h2 : j < n) W u1 u2 q1 q2 => mul03_any u1 u2 (fv (g i k)) (fv (wS g k j)) W q1 q2 (R_Q (R_mul (R_fv (hgf i k)) (R_fv (hfw k j h1 h2))) (by omega) (by omega)))
      have HSU := Lib.hid (fun i j k (h1 : k ≤ j) (h2 : j < n) (h3 : i ≤ k) W u1 u2 q1 q2 => sub03_any u1 u2 (nearD g i j k) (fv (g i k) * fv (wS g k j)) W q1 q2 (R_Q (a := 2148) (b := 2060) (by rw [← nearD_1 g i j k h3]; exact (hNR i j (k + 1) h2 (by omega) (by omega)).1) (by omega) (by omega)))
      have HAD := Lib.hid (fun i j k (h1 : k ≤ j) (h2 : j < n) (h3 : i ≤ k) W u1 u2 q1 q2 => add03_any u1 u2 (nearZ g i j k) (ab (fv (g i k) * fv (wS g k j))) W q1 q2 (R_Q (a := 2148) (b := 2060) (by rw [← nearZ_1 g i j k h3]; exact (hNR i j (k + 1) h2 (by omega) (by omega)).2) (by omega) (by omega)))
      have hL1 : ∀ i, R 1074 1026 ((n : Rat) + fv (g i i)) := fun i => R_add (a := 1074) (b := 1025) (R_mono hnR (by omega) (by omega)) (R_fv (hgf i i))
      have hL2 : ∀ i, R 2144 1027 (((n : Rat) + fv (g i i)) * pw (-1070)) := fun i => R_mul (a := 1074) (b := 1026) (c := 1070) (d := 1) (hL1 i) (R_pw (by omega) (by omega))
      have HA1 := Lib.hid (fun i W u1 u2 q1 q2 => add03_any u1 u2 (n : Rat) (fv (g i i)) W q1 q2 (R_Q (hL1 i) (by omega) (by omega)))
      have HM1 := Lib.hid (fun i W u1 u2 q1 q2 => mul03_any u1 u2 ((n : Rat) + fv (g i i)) (pw (-1070)) W q1 q2 (R_Q (hL2 i) (by omega) (by omega)))
      have hZ1 : ∀ i j, i ≤ j → j < n → R 2148 2070 (nearZ g i j (j + 1) * ((n + 2 : Nat) : Rat)) := fun i j h1 h2 => R_mul (a := 2148) (b := 2060) (c := 0) (d := 10) (hNR i j (j + 1) h2 (by omega) (by omega)).2 hn2R
      have hZ2 : ∀ i j, i ≤ j → j < n → R 2201 2071 (nearZ g i j (j + 1) * ((n + 2 : Nat) : Rat) * pw (-53)) := fun i j h1 h2 => R_mul (a := 2148) (b := 2070) (c := 53) (d := 1) (hZ1 i j h1 h2) (R_pw (by omega) (by omega))
      have hwn : IntKind.i64.wrap ((n : Int) + 2) = ((n + 2 : Nat) : Int) := by rw [IntKind.wrap_i64]; omega
      have hti := fun i j (h1 : i ≤ j) (h2 : j < n) W u1 q1 => times04_any u1 (nearZ g i j (j + 1)) (n + 2) W q1 (by omega) (R_Q (hZ1 i j h1 h2) (by omega) (by omega))
      have hti2 := hti
      rw [← hwn] at hti
      rw [show ((n + 2 : Nat) : Int) = (n : Int) + 2 from by omega] at hti2
      have HTI := Lib.hid hti
      have HTI2 := Lib.hid hti2
      have HM2 := Lib.hid (fun i j (h1 : i ≤ j) (h2 : j < n) W u1 u2 q1 q2 => mul03_any u1 u2 (nearZ g i j (j + 1) * ((n + 2 : Nat) : Rat)) (pw (-53)) W q1 q2 (R_Q (hZ2 i j h1 h2) (by omega) (by omega)))
      have HA2 := Lib.hid (fun i j (h1 : i ≤ j) (h2 : j < n) W u1 u2 q1 q2 => add03_any u1 u2 (nearZ g i j (j + 1) * ((n + 2 : Nat) : Rat) * pw (-53)) (((n : Rat) + fv (g i i)) * pw (-1070)) W q1 q2 (R_Q (R_add (a := 2201) (b := 2071) (hZ2 i j h1 h2) (R_mono (hL2 i) (by omega) (by omega))) (by omega) (by omega)))
      have HATT := Lib.hid (fun i j (h1 : i ≤ j) (h2 : j < n) W => at18_any n i j hn6.2 h1 h2 W)
      have hZ6 : IntKind.i64.wrap ((n : Int) * ((n : Int) + 1)) = 2 * ((st n n : Nat) : Int) := by
        have h1 : ((n : Int) * ((n : Int) + 1)) = 2 * ((st n n : Nat) : Int) := by
          have h2 : (n : Int) * ((n : Int) + 1) = ((n * n + n : Nat) : Int) := by rw [Int.natCast_add, Int.natCast_mul, Int.mul_add, Int.mul_one]
          rw [h2]; omega
        rw [h1, IntKind.wrap_i64]; omega
      have HIN := Lib.hid hin; have HAT := Lib.hid hat; have HSL := Lib.hid hS
      have HQ := Lib.hid hlaw2
      have HD0 := Lib.hid (nearD_0 g); have HZ0 := Lib.hid (nearZ_0 g); have HD1 := Lib.hid (nearD_1 g); have HZ1 := Lib.hid (nearZ_1 g)
      have HGET := Lib.hid hget; have HRO := Lib.hid hro
      obtain ⟨hn1, hn6⟩ := hn6
      generalize nearD g = D at *
      generalize nearZ g = Z at *
      generalize rowsL (wS g) n n = l at *
      rw [← hS] at hZ6
      obtain ⟨Z2, hZ2'⟩ : ∃ Z2 : Int, Z2 = 2 * ((l.length : Nat) : Int) := ⟨_, rfl⟩
      rw [← hZ2'] at hZ6
      have hz1 : 0 ≤ Z2 := by omega
      have hz2 : Z2 ≤ 72 := by omega
      have hz3 : Z2 / 2 = ((l.length : Nat) : Int) := by omega
      have hz4 : (((l.length : Nat) : Int) != ((l.length : Nat) : Int)) = false := by rw [bne_eq_false_iff_eq]
      have HLZ := Lib.hid hS
      have HL1 := Lib.hid (show 1 ≤ l.length by omega)
      clear hx k0 hro hE hok hcl hfw hlaw hlaw2 hrs hgf hglt hwlt hget hgg hS hat hin hst hst36 hst1 hNR nf1 nf2 nf3 hnR hn2R hp0 hL1 hL2 hZ1 hZ2 hwn hti hti2 hn hCn hZ2'
      go_enter Try.func5, Try.ntmps5
      go_wp2_with fail
      refine (HRO.out _ (K0.out.arg (.head _))).mono ?_
      rintro e w1 ⟨⟨v, rfl, A2, c2, rfl, hs2, _⟩, hb⟩
      obtain ⟨bw, ow, hAw, _, _⟩ := hs2.reads.2 (by have := HL1.out; omega)
      subst hAw
      have K1 := Lib.hid ((K0.out.call hb).more hs2)
      obtain ⟨r0, r1, r2, r3⟩ := (K1.out.other (.head _)).c4
      clear hb hs2
      go_wp2_with fail
      clear r0 r1 r2 r3 hz3 hz4 hZ6
      go_loopw [6] (fun iv wr => ∃ i : Nat, i ≤ n ∧ iv = .int .i64 (i : Int) ∧ KeepD w wr [] [(some ⟨bw, ow, none⟩, l, c2), (A, f.xs, c)] [(w.heap.size, 24, #[.int .i64 (n : Int), .slice A f.xs.length c, .int .i64 f.R, .int .i64 f.T])]) (fun iv _ => n - (intOf iv).toNat)
      case atStart => exact ⟨0, Nat.zero_le _, rfl, K1.out⟩
      case round =>
        obtain ⟨i, hi, rfl, hK⟩ := hrel
        have KA := Lib.hid hK
        clear hK
        by_cases hin : (i : Int) < (n : Int)
        · go_wp2_with fail
          go_loopw [7] (fun jv wr => ∃ j : Nat, i ≤ j ∧ j ≤ n ∧ jv = .int .i64 (j : Int) ∧ KeepD w wr [] [(some ⟨bw, ow, none⟩, l, c2), (A, f.xs, c)] [(w.heap.size, 24, #[.int .i64 (n : Int), .slice A f.xs.length c, .int .i64 f.R, .int .i64 f.T])]) (fun jv _ => n - (intOf jv).toNat)
          case atStart => exact ⟨i, Nat.le_refl _, hi, rfl, KA.out⟩
          case round =>
            rename_i wa
            obtain ⟨j, hij, hj, rfl, hK⟩ := hrel
            have KB := Lib.hid hK
            clear hK
            by_cases hjn : (j : Int) < (n : Int)
            · have hjn2 : j < n := by omega
              have k8 := KB.out.pushz
              obtain ⟨E8, hE8⟩ : ∃ E8, E8 = wr.alloc (.cells #[.bool false, .slice none 0 0, .int .i64 0] 38) := ⟨_, rfl⟩
              rw [← hE8] at k8
              obtain ⟨g8, hg8, k8⟩ := k8.name
              have K8 := Lib.hid k8
              have HE8 := Lib.hid hE8
              have HG8 := Lib.hid hg8
              clear k8 hE8 hg8
              go_upto_if 51 with (fail)
              rw [← HE8.out, HG8.out]
              clear HE8 HG8
              go_cut [] from 43 to 104 (fun wx => ∃ (d8 : Dy) (A8 : Option Addr) (c8 : Nat), KeepD w wx [(g8, d8, A8, c8)] [(some ⟨bw, ow, none⟩, l, c2), (A, f.xs, c)] [(w.heap.size, 24, #[.int .i64 (n : Int), .slice A f.xs.length c, .int .i64 f.R, .int .i64 f.T])] ∧ d8.v = D i j i)
              case first =>
                by_cases e : i = j
                · have t0 : ((i : Int) == (j : Int)) = true := by rw [beq_iff_eq]; omega
                  have t1 : decide ((i : Int) = (j : Int)) = true := decide_eq_true (by omega)
                  have HV0 := Lib.hid (show D i j i = 1 by rw [HD0.out, if_pos e])
                  clear e
                  go_wp2_with fail
                  refine (HP0.out _).mono ?_
                  rintro e w9 ⟨⟨v, rfl, hv⟩, hb9⟩
                  obtain ⟨d9, A9, c9, rfl, ha9, hv9⟩ := hv.a
                  have k9 := K8.out.call hb9
                  obtain ⟨b0, b1, b2⟩ := (k9.box (.head _)).c3
                  obtain ⟨f0, f1, f2⟩ := (k9.box (.head _)).f3
                  have KZ := Lib.hid (k9.store (.head _) (L' := []) (fun y hy => absurd hy List.not_mem_nil) ha9)
                  have HV9 := Lib.hid hv9
                  unfold dyV
                  clear hv ha9 hv9 hb9 k9
                  go_wp2_with fail
                  go_meet
                  exact ⟨d9, A9, c9, KZ.out, by rw [HV9.out, HV0.out]⟩
                · have t0 : ((i : Int) == (j : Int)) = false := by rw [beq_eq_false_iff_ne]; omega
                  have t1 : decide ((i : Int) = (j : Int)) = false := decide_eq_false (by omega)
                  have HV0 := Lib.hid (show D i j i = 0 by rw [HD0.out, if_neg e])
                  clear e
                  go_wp2_with fail
                  go_meet
                  exact ⟨Dy.zero, none, 0, K8.out, by rw [HV0.out]; exact Dy.zero_v⟩
              case rest =>
                obtain ⟨d8, A8, c8, hK, hv8⟩ := hcut
                have hlt8 := (hK.box (.head _)).lt
                have k9 := hK.pushz
                obtain ⟨E9, hE9⟩ : ∃ E9, E9 = wc.alloc (.cells #[.bool false, .slice none 0 0, .int .i64 0] 38) := ⟨_, rfl⟩
                rw [← hE9] at k9
                obtain ⟨g9, hg9, k9⟩ := k9.name
                have K9 := Lib.hid k9
                have HE9 := Lib.hid hE9
                have HG9 := Lib.hid hg9
                have HV8 := Lib.hid hv8
                have HN98 := Lib.hid (show g8 ≠ g9 by omega)
                clear k9 hE9 hg9 hK hv8 hlt8
                go_wp2_with fail
                rw [← HE9.out, HG9.out]
                clear HE9 HG9
                go_loopw [10] (fun kv wr => ∃ (k : Nat) (d9 : Dy) (A9 : Option Addr) (c9 : Nat) (d8 : Dy) (A8 : Option Addr) (c8 : Nat), i ≤ k ∧ k ≤ j + 1 ∧ kv = .int .i64 (k : Int) ∧ KeepD w wr [(g9, d9, A9, c9), (g8, d8, A8, c8)] [(some ⟨bw, ow, none⟩, l, c2), (A, f.xs, c)] [(w.heap.size, 24, #[.int .i64 (n : Int), .slice A f.xs.length c, .int .i64 f.R, .int .i64 f.T])] ∧ d9.v = Z i j k ∧ d8.v = D i j k) (fun kv _ => j + 1 - (intOf kv).toNat)
                case atStart => exact ⟨i, Dy.zero, none, 0, d8, A8, c8, Nat.le_refl _, by omega, rfl, K9.out, by rw [HZ0.out]; exact Dy.zero_v, HV8.out⟩
                case round =>
                  rename_i wb
                  obtain ⟨k, d9, A9, c9, d8, A8, c8, hik, hk, rfl, hK, hv9, hv8⟩ := hrel
                  have KI := Lib.hid hK
                  have HV9 := Lib.hid hv9
                  have HV8 := Lib.hid hv8
                  obtain ⟨r0, r1, r2, r3⟩ := (KI.out.other (.head _)).c4
                  clear hK hv9 hv8
                  by_cases hkj : (k : Int) ≤ (j : Int)
                  · have hkj2 : k ≤ j := by omega
                    have HNG := Lib.hid (fun Y (h : Below wr.heap.size wr Y) => HGET.out i k Y ((KI.out.call h).arg (.tail _ (.head _))))
                    have HNX := Lib.hid (HEX.out i k)
                    have HNW := Lib.hid (HEW.out k j hkj2 hjn2)
                    have HNM := Lib.hid (HMU.out i j k hkj2 hjn2)
                    have HNS := Lib.hid (HSU.out i j k hkj2 hjn2 hik)
                    have HNA := Lib.hid (HAD.out i j k hkj2 hjn2 hik)
                    have HNT := Lib.hid (HATT.out k j hkj2 hjn2)
                    have hP := HIN.out k j hkj2 hjn2
                    have hPl : st n k + (j - k) < l.length := by have := HLZ.out; omega
                    have hPz : ((st n k + (j - k) : Nat) : Int) < ((l.length : Nat) : Int) := by omega
                    have hPw := HAT.out k j hkj2 hjn2 (by omega)
                    have HSD := Lib.hid (HD1.out i j k hik)
                    have HSZ1 := Lib.hid (HZ1.out i j k hik)
                    have HPW := Lib.hid hPw
                    have HPL := Lib.hid hPl
                    generalize st n k + (j - k) = P at *
                    generalize fv (g i k) * fv (wS g k j) = pr at *
                    generalize g i k = xg at *
                    generalize wS g k j = xw at *
                    generalize fv xg = vg at *
                    generalize fv xw = vw at *
                    clear hP hPw hPl
                    go_wp2_with fail
                    refine (HNG.out _ (Below.refl _ _)).mono ?_
                    rintro e w11 ⟨rfl, hb11⟩
                    have K11 := Lib.hid (KI.out.call hb11)
                    clear hb11 r0 r1 r2 r3
                    go_wp2_with fail
                    refine (HNX.out _).mono ?_
                    rintro e w12 ⟨⟨v, rfl, hv⟩, hb12⟩
                    have K12 := Lib.hid (K11.out.call hb12)
                    obtain ⟨d12, A12, c12, rfl, ha12, hv12⟩ := hv.a
                    have HV12 := Lib.hid hv
                    unfold dyV at HV12 ⊢
                    clear hv ha12 hv12 hb12
                    go_wp2_with fail
                    refine (HNT.out _).mono ?_
                    rintro e w' ⟨rfl, rfl⟩
                    have hcw := arg_cell (K12.out.arg (.head _)) HPL.out
                    rw [HPW.out] at hcw
                    go_wp2_with fail
                    clear hcw
                    refine (HNW.out _).mono ?_
                    rintro e w13 ⟨⟨v, rfl, hv⟩, hb13⟩
                    have K13 := Lib.hid (K12.out.call hb13)
                    have hk12 := HV12.out.below hb13
                    clear HV12
                    have HV12 := Lib.hid hk12
                    clear hk12
                    obtain ⟨d13, A13, c13, rfl, ha13, hv13⟩ := hv.a
                    have HV13 := Lib.hid hv
                    unfold dyV at HV13 ⊢
                    clear hv ha13 hv13 hb13
                    go_wp2_with fail
                    refine (HNM.out _ _ _ HV12.out HV13.out).mono ?_
                    rintro e w14 ⟨⟨v, rfl, hv⟩, hb14⟩
                    obtain ⟨d14, A14, c14, rfl, ha14, hv14⟩ := hv.a
                    have k14 := (K13.out.call hb14).push ha14
                    obtain ⟨E14, hE14⟩ : ∃ E14, E14 = w14.alloc (.cells #[.bool d14.neg, .slice A14 (nd d14.n).length c14, .int .i64 d14.e] 38) := ⟨_, rfl⟩
                    rw [← hE14] at k14
                    obtain ⟨g14, hg14, k14⟩ := k14.name
                    have K14 := Lib.hid k14
                    have HE14 := Lib.hid hE14
                    have HSZ14 := Lib.hid (show g9 < g14 ∧ g8 < g14 from ⟨by rw [← hg14]; exact ((K13.out.call hb14).box (.head _)).lt, by rw [← hg14]; exact ((K13.out.call hb14).box (.tail _ (.head _))).lt⟩)
                    have HX14 := Lib.hid hv14
                    have HG14 := Lib.hid hg14
                    unfold dyV
                    clear hv ha14 hb14 k14 hE14 hv14 hg14
                    obtain ⟨p14x0a, p14x0b, p14x0c⟩ := (K14.out.box (.tail _ (.head _))).c3
                    rw [HE14.out] at p14x0a p14x0b p14x0c
                    obtain ⟨p14x1a, p14x1b, p14x1c⟩ := (K14.out.box (.tail _ (.tail _ (.head _)))).c3
                    rw [HE14.out] at p14x1a p14x1b p14x1c
                    go_wp2_with fail
                    rw [← HE14.out, HG14.out]
                    clear HE14
                    have hlt14 := HSZ14.out
                    clear p14x0a p14x0b p14x0c p14x1a p14x1b p14x1c
                    have HD8 := Lib.hid (show DyV E14 (dyV d8 A8 c8) (D i j k) by have := (K14.out.val (.tail _ (.tail _ (.head _)))).v; rw [HV8.out] at this; exact this)
                    have HD14 := Lib.hid (show DyV E14 (dyV d14 A14 c14) pr by have := (K14.out.val (.head _)).v; rw [HX14.out] at this; exact this)
                    unfold dyV at HD8 HD14
                    refine (HNS.out _ _ _ HD8.out HD14.out).mono ?_
                    rintro e w15 ⟨⟨v, rfl, hv⟩, hb15⟩
                    obtain ⟨d15, A15, c15, rfl, ha15, hv15⟩ := hv.a
                    have k15 := K14.out.call hb15
                    obtain ⟨b0, b1, b2⟩ := (k15.box (.tail _ (.tail _ (.head _)))).c3
                    obtain ⟨f0, f1, f2⟩ := (k15.box (.tail _ (.tail _ (.head _)))).f3
                    have k16 := k15.store (.tail _ (.tail _ (.head _))) (L' := [(g14, d14, A14, c14), (g9, d9, A9, c9)]) (fun y hy => by
                      rcases List.mem_cons.1 hy with rfl | hy
                      · exact ⟨.head _, by show g14 ≠ g8; omega⟩
                      · rw [List.mem_singleton] at hy; subst hy; exact ⟨.tail _ (.head _), fun h => HN98.out h.symm⟩) ha15
                    unfold stored3 at k16
                    have K16 := Lib.hid k16
                    have HV15 := Lib.hid (hv15.trans HSD.out.symm)
                    have HLT := Lib.hid hlt14
                    unfold dyV
                    clear hv ha15 hv15 hb15 k15 k16 hlt14 HD8 HD14
                    go_wp2_with fail
                    obtain ⟨E16, hE16⟩ : ∃ E16, E16 = ((w15.setCell ⟨g8, 0, none⟩ (.bool d15.neg)).setCell ⟨g8, 1, none⟩ (.slice A15 (nd d15.n).length c15)).setCell ⟨g8, 2, none⟩ (.int .i64 d15.e) := ⟨_, rfl⟩
                    have k17 := K16.out
                    rw [← hE16] at k17
                    rw [← hE16]
                    have K17 := Lib.hid k17
                    clear hE16 k17 K16 b0 b1 b2 f0 f1 f2
                    obtain ⟨b0, b1, b2⟩ := (K17.out.box (.tail _ (.tail _ (.head _)))).c3
                    obtain ⟨q0, q1, q2⟩ := (K17.out.box (.tail _ (.head _))).c3
                    have HAB := Lib.hid (fun Y (h : Below E16.heap.size E16 Y) => abs03_any _ pr Y (by have := ((K17.out.call h).val (.tail _ (.head _))).v; rw [HX14.out] at this; exact this))
                    have HND := Lib.hid (fun Y u2 (h : Below E16.heap.size E16 Y) h2 => HNA.out Y _ u2 (by have := ((K17.out.call h).val (.tail _ (.tail _ (.head _)))).v; rw [HV9.out] at this; exact this) h2)
                    unfold dyV at HAB HND
                    go_region_with (first
                      | (go_at_call 27; (refine (HAB.out _ ?_).mono ?_); (exact (by repeat (first | assumption | exact Below.refl _ _ | refine Below.allocs ?_ _ | refine Below.drews ?_ | refine Below.chain ?_ (by assumption)))); rintro e y3 ⟨⟨v, rfl, hav⟩, hb3⟩; obtain ⟨d3, A3, c3, rfl, ha3, hv3⟩ := hav.a; have hbA : Below E16.heap.size E16 y3 := (Below.chain (by repeat (first | assumption | exact Below.refl _ _ | refine Below.allocs ?_ _ | refine Below.drews ?_ | refine Below.chain ?_ (by assumption))) hb3); obtain ⟨b0, b1, b2⟩ := ((K17.out.call hbA).box (.tail _ (.tail _ (.head _)))).c3; unfold dyV at *)
                      | (go_at_call 26; (refine (HND.out _ _ ?_ ?_).mono ?_); (exact (by repeat (first | assumption | exact Below.refl _ _ | refine Below.allocs ?_ _ | refine Below.drews ?_ | refine Below.chain ?_ (by assumption)))); (exact (hav.below (by repeat (first | assumption | exact Below.refl _ _ | refine Below.allocs ?_ _ | refine Below.drews ?_ | refine Below.chain ?_ (by assumption))))); rintro e y4 ⟨⟨v, rfl, hsv⟩, hb4⟩; obtain ⟨d5, A5, c5, rfl, ha5, hv5⟩ := hsv.a; have hbX : Below E16.heap.size E16 y4 := (Below.chain (by repeat (first | assumption | exact Below.refl _ _ | refine Below.allocs ?_ _ | refine Below.drews ?_ | refine Below.chain ?_ (by assumption))) hb4); obtain ⟨z0, z1, z2⟩ := ((K17.out.call hbX).box (.tail _ (.tail _ (.head _)))).c3; obtain ⟨f0, f1, f2⟩ := ((K17.out.call hbX).box (.tail _ (.tail _ (.head _)))).f3; unfold dyV at *))
                    all_goals
                      have KZ := Lib.hid ((K17.out.call hbX).store (.tail _ (.tail _ (.head _))) (L' := [(g8, d15, A15, c15)]) (fun y hy => by rw [List.mem_singleton] at hy; subst hy; exact ⟨.head _, HN98.out⟩) ha5)
                      have HV5 := Lib.hid (hv5.trans HSZ1.out.symm)
                      clear ha5 hv5
                      go_wp2
                      go_roundw
                      case rel => exact ⟨k + 1, d5, A5, c5, d15, A15, c15, by omega, by omega, by go_num, KZ.out, HV5.out, HV15.out⟩
                      case measure => simp [intOf]; omega
                  · obtain rfl : k = j + 1 := by omega
                    have HNG := Lib.hid (fun Y (h : Below wr.heap.size wr Y) => HGET.out i i Y ((KI.out.call h).arg (.tail _ (.head _))))
                    have HNX := Lib.hid (HEX.out i i)
                    have HNA := Lib.hid (HA1.out i)
                    have HNM := Lib.hid (HM1.out i)
                    have HKE := Lib.hid (fun Y (h : Below wr.heap.size wr Y) => And.intro ((KI.out.call h).other (.head _)).c4 h)
                    have hq := HQ.out i j hij hjn2
                    have HNTI := Lib.hid (HTI.out i j hij hjn2)
                    have HNTI2 := Lib.hid (HTI2.out i j hij hjn2)
                    have HNM2 := Lib.hid (HM2.out i j hij hjn2)
                    have HNA2 := Lib.hid (HA2.out i j hij hjn2)
                    have HCM := Lib.hid (fun W u1 u2 h1 h2 => cmp03_any u1 u2 (ab (D i j (j + 1))) (Z i j (j + 1) * ((n + 2 : Nat) : Rat) * pw (-53) + ((n : Rat) + fv (g i i)) * pw (-1070)) W h1 h2)
                    generalize cmpQ (ab (D i j (j + 1))) (Z i j (j + 1) * ((n + 2 : Nat) : Rat) * pw (-53) + ((n : Rat) + fv (g i i)) * pw (-1070)) = cq at *
                    generalize Z i j (j + 1) * ((n + 2 : Nat) : Rat) * pw (-53) + ((n : Rat) + fv (g i i)) * pw (-1070) = P4 at *
                    generalize Z i j (j + 1) * ((n + 2 : Nat) : Rat) * pw (-53) = P3 at *
                    generalize Z i j (j + 1) * ((n + 2 : Nat) : Rat) = P2 at *
                    generalize ((n : Rat) + fv (g i i)) * pw (-1070) = P1 at *
                    generalize (n : Rat) + fv (g i i) = P0 at *
                    generalize g i i = xg at *
                    generalize fv xg = vg at *
                    generalize D i j (j + 1) = DE at *
                    generalize Z i j (j + 1) = ZE at *
                    clear r0 r1 r2 r3
                    have HQD := Lib.hid hq
                    clear hq
                    go_wp2_with fail
                    go_cut [12] from 43 to 104 (fun s12 wx => ∃ (g12 : Nat) (d12 : Dy) (A12 : Option Addr) (c12 : Nat), s12 = .pointer (some ⟨g12, 0, none⟩) ∧ KeepD w wx [(g12, d12, A12, c12), (g9, d9, A9, c9), (g8, d8, A8, c8)] [(some ⟨bw, ow, none⟩, l, c2), (A, f.xs, c)] [(w.heap.size, 24, #[.int .i64 (n : Int), .slice A f.xs.length c, .int .i64 f.R, .int .i64 f.T])] ∧ d12.v = P1)
                    case first =>
                      go_region_held3 (fun Y => ((Y.cell? ⟨w.heap.size, 0, none⟩ = some (.int .i64 (n : Int)) ∧ Y.cell? ⟨w.heap.size, 1, none⟩ = some (.slice A f.xs.length c) ∧ Y.cell? ⟨w.heap.size, 2, none⟩ = some (.int .i64 f.R) ∧ Y.cell? ⟨w.heap.size, 3, none⟩ = some (.int .i64 f.T)) ∧ Below wr.heap.size wr Y))
                        ((refine HKE.out _ ?_; first | (refine Below.setCell (Below.setCell (Below.setCell hbW (by exact bz.ge) _) (by exact bz.ge) _) (by exact bz.ge) _) | (repeat (first | assumption | exact Below.refl _ _ | refine Below.allocs ?_ _ | refine Below.drews ?_ | refine Below.chain ?_ (by assumption)))))
                        (first
                          | (go_at_call 23; (refine (HNG.out _ (by repeat (first | assumption | exact Below.refl _ _ | refine Below.allocs ?_ _ | refine Below.drews ?_ | refine Below.chain ?_ (by assumption)))).mono ?_); rintro e y1 ⟨rfl, hb1⟩; (first | (have bz := ownZ_new (W := wr) (by repeat (first | assumption | exact Below.refl _ _ | refine Below.allocs ?_ _ | refine Below.drews ?_ | refine Below.chain ?_ (by assumption))) hb1) | (have bz := ownZ_newd (W := wr) (by repeat (first | assumption | exact Below.refl _ _ | refine Below.allocs ?_ _ | refine Below.drews ?_ | refine Below.chain ?_ (by assumption))) hb1) | (have bz := bz.call hb1) | skip); (try (obtain ⟨x0, x1, x2⟩ := bz.bk.c3; obtain ⟨y0, y1, y2⟩ := bz.bk.f3)))
                          | (go_at_call 22; (with_reducible refine (HNE.out _).mono ?_); rintro e y2 ⟨⟨v, rfl, hnv⟩, hb2⟩; obtain ⟨d2, A2, c2, rfl, ha2, hv2⟩ := hnv.a; unfold dyV at *; (first | (have bz := ownZ_new (W := wr) (by repeat (first | assumption | exact Below.refl _ _ | refine Below.allocs ?_ _ | refine Below.drews ?_ | refine Below.chain ?_ (by assumption))) hb2) | (have bz := ownZ_newd (W := wr) (by repeat (first | assumption | exact Below.refl _ _ | refine Below.allocs ?_ _ | refine Below.drews ?_ | refine Below.chain ?_ (by assumption))) hb2) | (have bz := bz.call hb2) | skip); (try (obtain ⟨x0, x1, x2⟩ := bz.bk.c3; obtain ⟨y0, y1, y2⟩ := bz.bk.f3)))
                          | (go_at_call 22; (with_reducible refine (HNX.out _).mono ?_); rintro e y3 ⟨⟨v, rfl, hxv⟩, hb3⟩; obtain ⟨d3, A3, c3, rfl, ha3, hv3⟩ := hxv.a; unfold dyV at *; (first | (have bz := ownZ_new (W := wr) (by repeat (first | assumption | exact Below.refl _ _ | refine Below.allocs ?_ _ | refine Below.drews ?_ | refine Below.chain ?_ (by assumption))) hb3) | (have bz := ownZ_newd (W := wr) (by repeat (first | assumption | exact Below.refl _ _ | refine Below.allocs ?_ _ | refine Below.drews ?_ | refine Below.chain ?_ (by assumption))) hb3) | (have bz := bz.call hb3) | skip); (try (obtain ⟨x0, x1, x2⟩ := bz.bk.c3; obtain ⟨y0, y1, y2⟩ := bz.bk.f3)))
                          | (go_at_call 26; (with_reducible refine (HNA.out _ _ _ (hnv.below (by repeat (first | assumption | exact Below.refl _ _ | refine Below.allocs ?_ _ | refine Below.drews ?_ | refine Below.chain ?_ (by assumption)))) (hxv.below (by repeat (first | assumption | exact Below.refl _ _ | refine Below.allocs ?_ _ | refine Below.drews ?_ | refine Below.chain ?_ (by assumption))))).mono ?_); rintro e y4 ⟨⟨v, rfl, hav⟩, hb4⟩; obtain ⟨d4, A4, c4, rfl, ha4, hv4⟩ := hav.a; unfold dyV at *; (first | (have bz := ownZ_new (W := wr) (by repeat (first | assumption | exact Below.refl _ _ | refine Below.allocs ?_ _ | refine Below.drews ?_ | refine Below.chain ?_ (by assumption))) hb4) | (have bz := ownZ_newd (W := wr) (by repeat (first | assumption | exact Below.refl _ _ | refine Below.allocs ?_ _ | refine Below.drews ?_ | refine Below.chain ?_ (by assumption))) hb4) | (have bz := bz.call hb4) | skip); (try (obtain ⟨x0, x1, x2⟩ := bz.bk.c3; obtain ⟨y0, y1, y2⟩ := bz.bk.f3)))
                          | (go_at_call 20; (with_reducible refine (HP1070.out _).mono ?_); rintro e y5 ⟨⟨v, rfl, hpv⟩, hb5⟩; obtain ⟨d5, A5, c5, rfl, ha5, hv5⟩ := hpv.a; unfold dyV at *; (first | (have bz := ownZ_new (W := wr) (by repeat (first | assumption | exact Below.refl _ _ | refine Below.allocs ?_ _ | refine Below.drews ?_ | refine Below.chain ?_ (by assumption))) hb5) | (have bz := ownZ_newd (W := wr) (by repeat (first | assumption | exact Below.refl _ _ | refine Below.allocs ?_ _ | refine Below.drews ?_ | refine Below.chain ?_ (by assumption))) hb5) | (have bz := bz.call hb5) | skip); (try (obtain ⟨x0, x1, x2⟩ := bz.bk.c3; obtain ⟨y0, y1, y2⟩ := bz.bk.f3)))
                          | (go_at_call 21; (with_reducible refine (HNM.out _ _ _ (hav.below (by repeat (first | assumption | exact Below.refl _ _ | refine Below.allocs ?_ _ | refine Below.drews ?_ | refine Below.chain ?_ (by assumption)))) (hpv.below (by repeat (first | assumption | exact Below.refl _ _ | refine Below.allocs ?_ _ | refine Below.drews ?_ | refine Below.chain ?_ (by assumption))))).mono ?_); rintro e y6 ⟨⟨v, rfl, hmv⟩, hb6⟩; obtain ⟨d6, A6, c6, rfl, ha6, hv6⟩ := hmv.a; unfold dyV at *; (first | (have bz := ownZ_new (W := wr) (by repeat (first | assumption | exact Below.refl _ _ | refine Below.allocs ?_ _ | refine Below.drews ?_ | refine Below.chain ?_ (by assumption))) hb6) | (have bz := ownZ_newd (W := wr) (by repeat (first | assumption | exact Below.refl _ _ | refine Below.allocs ?_ _ | refine Below.drews ?_ | refine Below.chain ?_ (by assumption))) hb6) | (have bz := bz.call hb6) | skip); (try (obtain ⟨x0, x1, x2⟩ := bz.bk.c3; obtain ⟨y0, y1, y2⟩ := bz.bk.f3)); have hbW : Below wr.heap.size wr y6 := (Below.chain (by repeat (first | assumption | exact Below.refl _ _ | refine Below.allocs ?_ _ | refine Below.drews ?_ | refine Below.chain ?_ (by assumption))) hb6)))
                      all_goals
                        have HBW := Lib.hid hbW; have HA := Lib.hid ha6; have HVV := Lib.hid hv6
                        go_wp2_with fail
                        go_meet
                        first
                        | exact ⟨_, d6, A6, c6, rfl, (KI.out.call HBW.out).push HA.out, HVV.out⟩
                        | exact ⟨_, d6, A6, c6, rfl, KI.out.fill HBW.out bz HA.out, HVV.out⟩
                    case rest =>
                      obtain ⟨g12, d12, A12, c12, rfl, hK, hv12⟩ := hcut
                      have KC := Lib.hid hK; have HV12 := Lib.hid hv12
                      clear hK hv12 HKE HNG HNX HNA HNM
                      have HKE := Lib.hid (fun Y (h : Below wc.heap.size wc Y) => And.intro ((KC.out.call h).box (.head _)).c3 (And.intro ((KC.out.call h).box (.tail _ (.head _))).c3 h))
                      have HD9 := Lib.hid (fun Y (h : Below wc.heap.size wc Y) => show DyV Y (dyV d9 A9 c9) ZE from (by have := ((KC.out.call h).val (.tail _ (.head _))).v; rw [HV9.out] at this; exact this))
                      have HD12 := Lib.hid (fun Y (h : Below wc.heap.size wc Y) => show DyV Y (dyV d12 A12 c12) P1 from (by have := ((KC.out.call h).val (.head _)).v; rw [HV12.out] at this; exact this))
                      unfold dyV at HD9 HD12
                      go_wp2_with fail
                      go_cut [13] from 43 to 104 (fun s13 wx => ∃ (g13 : Nat) (d13 : Dy) (A13 : Option Addr) (c13 : Nat), s13 = .pointer (some ⟨g13, 0, none⟩) ∧ KeepD w wx [(g13, d13, A13, c13), (g12, d12, A12, c12), (g9, d9, A9, c9), (g8, d8, A8, c8)] [(some ⟨bw, ow, none⟩, l, c2), (A, f.xs, c)] [(w.heap.size, 24, #[.int .i64 (n : Int), .slice A f.xs.length c, .int .i64 f.R, .int .i64 f.T])] ∧ d13.v = P4)
                      case first =>
                        go_region_held3 (fun Y => ((Y.cell? ⟨g12, 0, none⟩ = some (.bool d12.neg) ∧ Y.cell? ⟨g12, 1, none⟩ = some (.slice A12 (nd d12.n).length c12) ∧ Y.cell? ⟨g12, 2, none⟩ = some (.int .i64 d12.e)) ∧ (Y.cell? ⟨g9, 0, none⟩ = some (.bool d9.neg) ∧ Y.cell? ⟨g9, 1, none⟩ = some (.slice A9 (nd d9.n).length c9) ∧ Y.cell? ⟨g9, 2, none⟩ = some (.int .i64 d9.e)) ∧ Below wc.heap.size wc Y))
                          ((refine HKE.out _ ?_; first | (refine Below.setCell (Below.setCell (Below.setCell hbW (by exact bz.ge) _) (by exact bz.ge) _) (by exact bz.ge) _) | (repeat (first | assumption | exact Below.refl _ _ | refine Below.allocs ?_ _ | refine Below.drews ?_ | refine Below.chain ?_ (by assumption)))))
                          (first
                            | (go_at_call 28; (with_reducible refine (HNTI.out _ _ (HD9.out _ (by repeat (first | assumption | exact Below.refl _ _ | refine Below.allocs ?_ _ | refine Below.drews ?_ | refine Below.chain ?_ (by assumption))))).mono ?_); rintro e y1 ⟨⟨v, rfl, htv⟩, hb1⟩; obtain ⟨d1, A1, c1, rfl, ha1, hv1⟩ := htv.a; unfold dyV at *; (first | (have bz := ownZ_new (W := wc) (by repeat (first | assumption | exact Below.refl _ _ | refine Below.allocs ?_ _ | refine Below.drews ?_ | refine Below.chain ?_ (by assumption))) hb1) | (have bz := ownZ_newd (W := wc) (by repeat (first | assumption | exact Below.refl _ _ | refine Below.allocs ?_ _ | refine Below.drews ?_ | refine Below.chain ?_ (by assumption))) hb1) | (have bz := bz.call hb1) | skip); (try (obtain ⟨x0, x1, x2⟩ := bz.bk.c3; obtain ⟨y0, y1, y2⟩ := bz.bk.f3)))
                            | (go_at_call 28; (with_reducible refine (HNTI2.out _ _ (HD9.out _ (by repeat (first | assumption | exact Below.refl _ _ | refine Below.allocs ?_ _ | refine Below.drews ?_ | refine Below.chain ?_ (by assumption))))).mono ?_); rintro e y2 ⟨⟨v, rfl, htv⟩, hb2⟩; obtain ⟨d2, A2, c2, rfl, ha2, hv2⟩ := htv.a; unfold dyV at *; (first | (have bz := ownZ_new (W := wc) (by repeat (first | assumption | exact Below.refl _ _ | refine Below.allocs ?_ _ | refine Below.drews ?_ | refine Below.chain ?_ (by assumption))) hb2) | (have bz := ownZ_newd (W := wc) (by repeat (first | assumption | exact Below.refl _ _ | refine Below.allocs ?_ _ | refine Below.drews ?_ | refine Below.chain ?_ (by assumption))) hb2) | (have bz := bz.call hb2) | skip); (try (obtain ⟨x0, x1, x2⟩ := bz.bk.c3; obtain ⟨y0, y1, y2⟩ := bz.bk.f3)))
                            | (go_at_call 20; (with_reducible refine (HP53.out _).mono ?_); rintro e y3 ⟨⟨v, rfl, hpv⟩, hb3⟩; obtain ⟨d3, A3, c3, rfl, ha3, hv3⟩ := hpv.a; unfold dyV at *; (first | (have bz := ownZ_new (W := wc) (by repeat (first | assumption | exact Below.refl _ _ | refine Below.allocs ?_ _ | refine Below.drews ?_ | refine Below.chain ?_ (by assumption))) hb3) | (have bz := ownZ_newd (W := wc) (by repeat (first | assumption | exact Below.refl _ _ | refine Below.allocs ?_ _ | refine Below.drews ?_ | refine Below.chain ?_ (by assumption))) hb3) | (have bz := bz.call hb3) | skip); (try (obtain ⟨x0, x1, x2⟩ := bz.bk.c3; obtain ⟨y0, y1, y2⟩ := bz.bk.f3)))
                            | (go_at_call 21; (with_reducible refine (HNM2.out _ _ _ (htv.below (by repeat (first | assumption | exact Below.refl _ _ | refine Below.allocs ?_ _ | refine Below.drews ?_ | refine Below.chain ?_ (by assumption)))) (hpv.below (by repeat (first | assumption | exact Below.refl _ _ | refine Below.allocs ?_ _ | refine Below.drews ?_ | refine Below.chain ?_ (by assumption))))).mono ?_); rintro e y4 ⟨⟨v, rfl, hmv⟩, hb4⟩; obtain ⟨d4, A4, c4, rfl, ha4, hv4⟩ := hmv.a; unfold dyV at *; (first | (have bz := ownZ_new (W := wc) (by repeat (first | assumption | exact Below.refl _ _ | refine Below.allocs ?_ _ | refine Below.drews ?_ | refine Below.chain ?_ (by assumption))) hb4) | (have bz := ownZ_newd (W := wc) (by repeat (first | assumption | exact Below.refl _ _ | refine Below.allocs ?_ _ | refine Below.drews ?_ | refine Below.chain ?_ (by assumption))) hb4) | (have bz := bz.call hb4) | skip); (try (obtain ⟨x0, x1, x2⟩ := bz.bk.c3; obtain ⟨y0, y1, y2⟩ := bz.bk.f3)))
                            | (go_at_call 26; (with_reducible refine (HNA2.out _ _ _ (hmv.below (by repeat (first | assumption | exact Below.refl _ _ | refine Below.allocs ?_ _ | refine Below.drews ?_ | refine Below.chain ?_ (by assumption)))) (HD12.out _ (by repeat (first | assumption | exact Below.refl _ _ | refine Below.allocs ?_ _ | refine Below.drews ?_ | refine Below.chain ?_ (by assumption))))).mono ?_); rintro e y5 ⟨⟨v, rfl, hsv⟩, hb5⟩; obtain ⟨d5, A5, c5, rfl, ha5, hv5⟩ := hsv.a; unfold dyV at *; (first | (have bz := ownZ_new (W := wc) (by repeat (first | assumption | exact Below.refl _ _ | refine Below.allocs ?_ _ | refine Below.drews ?_ | refine Below.chain ?_ (by assumption))) hb5) | (have bz := ownZ_newd (W := wc) (by repeat (first | assumption | exact Below.refl _ _ | refine Below.allocs ?_ _ | refine Below.drews ?_ | refine Below.chain ?_ (by assumption))) hb5) | (have bz := bz.call hb5) | skip); (try (obtain ⟨x0, x1, x2⟩ := bz.bk.c3; obtain ⟨y0, y1, y2⟩ := bz.bk.f3)); have hbW : Below wc.heap.size wc y5 := (Below.chain (by repeat (first | assumption | exact Below.refl _ _ | refine Below.allocs ?_ _ | refine Below.drews ?_ | refine Below.chain ?_ (by assumption))) hb5)))
                        all_goals
                          have HBW := Lib.hid hbW; have HA := Lib.hid ha5; have HVV := Lib.hid hv5
                          go_wp2_with fail
                          go_meet
                          first
                          | exact ⟨_, d5, A5, c5, rfl, (KC.out.call HBW.out).push HA.out, HVV.out⟩
                          | exact ⟨_, d5, A5, c5, rfl, KC.out.fill HBW.out bz HA.out, HVV.out⟩
                      case rest =>
                        obtain ⟨g13, d13, A13, c13, rfl, hK, hv13⟩ := hcut
                        have KD := Lib.hid hK; have HV13 := Lib.hid hv13
                        clear hK hv13 HKE HD9 HD12 HNTI HNTI2 HNM2 HNA2
                        have HKE := Lib.hid (fun Y (h : Below wc.heap.size wc Y) => And.intro ((KD.out.call h).box (.head _)).c3 (And.intro ((KD.out.call h).box (.tail _ (.tail _ (.tail _ (.head _))))).c3 h))
                        have HAB := Lib.hid (fun Y (h : Below wc.heap.size wc Y) => abs03_any _ DE Y (by have := ((KD.out.call h).val (.tail _ (.tail _ (.tail _ (.head _))))).v; rw [HV8.out] at this; exact this))
                        have HNC := Lib.hid (fun Y u1 (h : Below wc.heap.size wc Y) h1 => HCM.out Y u1 _ h1 (by have := ((KD.out.call h).val (.head _)).v; rw [HV13.out] at this; exact this))
                        unfold dyV at HAB HNC
                        have hq := HQD.out
                        go_wp2_with fail
                        go_region_held3 (fun Y => ((Y.cell? ⟨g13, 0, none⟩ = some (.bool d13.neg) ∧ Y.cell? ⟨g13, 1, none⟩ = some (.slice A13 (nd d13.n).length c13) ∧ Y.cell? ⟨g13, 2, none⟩ = some (.int .i64 d13.e)) ∧ (Y.cell? ⟨g8, 0, none⟩ = some (.bool d8.neg) ∧ Y.cell? ⟨g8, 1, none⟩ = some (.slice A8 (nd d8.n).length c8) ∧ Y.cell? ⟨g8, 2, none⟩ = some (.int .i64 d8.e)) ∧ Below wc.heap.size wc Y))
                          ((refine HKE.out _ ?_; (repeat (first | assumption | exact Below.refl _ _ | refine Below.allocs ?_ _ | refine Below.drews ?_ | refine Below.chain ?_ (by assumption)))))
                          (first
                            | (go_at_call 27; (refine (HAB.out _ (by repeat (first | assumption | exact Below.refl _ _ | refine Below.allocs ?_ _ | refine Below.drews ?_ | refine Below.chain ?_ (by assumption)))).mono ?_); rintro e y3 ⟨⟨v, rfl, hav⟩, hb3⟩; obtain ⟨d3, A3, c3, rfl, ha3, hv3⟩ := hav.a; unfold dyV at *)
                            | (go_at_call 29; (with_reducible refine (HNC.out _ _ (by repeat (first | assumption | exact Below.refl _ _ | refine Below.allocs ?_ _ | refine Below.drews ?_ | refine Below.chain ?_ (by assumption))) (hav.below (by repeat (first | assumption | exact Below.refl _ _ | refine Below.allocs ?_ _ | refine Below.drews ?_ | refine Below.chain ?_ (by assumption))))).mono ?_); rintro e y4 ⟨rfl, hb4⟩; have hbE : Below wc.heap.size wc y4 := (Below.chain (by repeat (first | assumption | exact Below.refl _ _ | refine Below.allocs ?_ _ | refine Below.drews ?_ | refine Below.chain ?_ (by assumption))) hb4)))
                        all_goals
                          have HK := Lib.hid ((KD.out.call hbE).few (L' := []) (fun y hy => absurd hy List.not_mem_nil) (fun y hy => hy) (fun y hy => hy))
                          go_wp2
                          go_roundw
                          case rel => exact ⟨j + 1, by omega, by omega, by go_num, HK.out⟩
                          case measure => simp [intOf]; omega
            · obtain rfl : j = n := by omega
              go_wp2
              go_roundw
              case rel => exact ⟨i + 1, by omega, by go_num, KB.out⟩
              case measure => simp [intOf]; omega
        · go_wp2_with fail
          refine (HLV.out _).mono ?_
          rintro e w9 ⟨rfl, hb⟩
          have HB := Lib.hid (KA.out.call hb).below
          clear hb
          go_wp2
          go_ret
          exact ⟨rfl, HB.out⟩
    · have t0 : (invE f != 0) = true := by rw [bne_iff_ne]; exact hE
      have HRO := Lib.hid hro
      unfold facV at HRO ⊢
      clear hx k0 hro hE
      generalize invE f = E at *
      generalize rowsS f = l at *
      go_enter Try.func5, Try.ntmps5
      go_wp2_with fail
      refine (HRO.out _ (K0.out.arg (.head _))).mono ?_
      rintro e w1 ⟨⟨v, rfl, _⟩, hb1⟩
      have K1 := Lib.hid (K0.out.call hb1)
      clear hb1
      go_wp2_with fail
      refine (HLV.out _).mono ?_
      rintro e w6 ⟨rfl, hb6⟩
      have HB := Lib.hid (K1.out.call hb6).below
      clear hb6
      go_wp2
      go_ret
      exact ⟨rfl, HB.out⟩
end Go.Proofs.Ytigacobphgeeaaa
