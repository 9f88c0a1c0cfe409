/- The walk of InverseLeast. -/
import Derived.Test.YtigacobphgeeaaaXv9
import Derived.Test.YtigacobphgeeaaaXq9
import Derived.Test.YtigacobphgeeaaaZ9
import Derived.Test.YtigacobphgeeaaaVq9
set_option linter.unusedVariables false
namespace Lev
def colR (g : Nat → Nat → Nat) (j k : Nat) : Rat := sumR (fun i => ab (fv (g i j))) k
theorem colR_succ (g : Nat → Nat → Nat) (j k : Nat) : colR g j (k + 1) = colR g j k + ab (fv (g k j)) := rfl
theorem colR_zero (g : Nat → Nat → Nat) (j : Nat) : colR g j 0 = 0 := rfl
theorem cmpQ_nlt {x y : Rat} (h : y ≤ x) : decide (cmpQ x y < 0) = false := by
  rw [decide_eq_false_iff_not]
  unfold cmpQ
  rw [if_neg (Rat.not_lt.2 h)]
  split <;> decide
theorem colR_R {g : Nat → Nat → Nat} (h : ∀ i j, fin (g i j)) (j k : Nat) (hk : k ≤ 7) : R 1074 1040 (colR g j k) :=
  R_mono (R_sum (t := fun i => ab (fv (g i j))) k (fun i _ => R_ab (R_fv (h i j)))) (by omega) (by omega)
end Lev
namespace Go.Proofs.Ytigacobphgeeaaa
open Go.RowKit Go.Shelf Lev

set_option maxRecDepth 100000 in
set_option maxHeartbeats 4000000 in
theorem inverseLeast (f : Fct) (A : Option Addr) (c : Nat) (w : World) (hx : SlArg w A f.xs c) :
    Calls Try.prog 6 #[facV f.C A f.xs.length c f.R f.T] w fun e w' => e = .returned (.bool true) ∧ Below w.heap.size w w' := by
  have HLV := Lib.hid (fun W => live18 W)
  have k0 := ((KeepD.start w).more hx).pusho #[.int .i64 f.C, .slice A f.xs.length c, .int .i64 f.R, .int .i64 f.T] 24 (by decide)
  have K0 := Lib.hid k0
  have hl63 : f.xs.length ≤ 9223372036854775807 := Nat.le_trans hx.cap hx.room
  have hcd := fun W h => Cond_any f A c W h
  by_cases h60 : (60 : Int) < (f.xs.length : Int)
  · unfold facV
    clear hx k0 hcd
    go_enter Try.func6, Try.ntmps6
    go_wp2_with fail
    refine (HLV.out _).mono ?_
    rintro e w1 ⟨rfl, hb⟩
    have HB := Lib.hid (K0.out.call hb).below
    clear hb
    go_wp2
    go_ret
    exact ⟨rfl, HB.out⟩
  · by_cases hE : condE f = 0
    · have hok : f.ok = true := by
        cases e : f.ok
        · exact absurd hE (by unfold condE invE; rw [if_pos e, if_pos (by decide)]; decide)
        · rfl
      have hcl := ok_len hok
      obtain ⟨n, hn⟩ : ∃ n : Nat, f.C = (n : Int) := ⟨f.C.toNat, by omega⟩
      have hn6 : 1 ≤ n ∧ n ≤ 6 := by omega
      obtain ⟨hfc, hl1, hl2⟩ := least_law hn hE
      have hcv : condV f = condC f := by unfold condV; rw [if_pos hE]
      have hclt : condC f < 18446744073709551616 := by unfold condC; exact arS_lt _ _ _
      have hgf : ∀ i j, fin (gS f i j) := fun i j => gS_fin hok i j
      have hglt : ∀ i j, gS f i j < 18446744073709551616 := fun i j => getS_lt hx.reads.1 (i : Int) (j : Int)
      have hget := fun (i j : Nat) W h => rget_any f A c (i : Int) (j : Int) W h
      have hgg : ∀ i j : Nat, getS f (i : Int) (j : Int) = gS f i j := fun _ _ => rfl
      simp only [hgg] at hget
      rw [hcv, hE] at hcd
      unfold facV at hcd hget ⊢
      rw [hn] at hcd hget K0 ⊢
      generalize gS f = g at *
      generalize condC f = cb at *
      have hsr := fun j k hk => colR_R hgf j k hk
      have s1 : R 41 2 (1 - pw (-40)) := R_sub (a := 41) (b := 1) (by have := R_pw (a := 41) (b := 1) (k := 0) (by omega) (by omega); rwa [pw_zero] at this) (R_pw (by omega) (by omega))
      have HSU := Lib.hid (fun W u1 u2 h1 h2 => sub03_any u1 u2 1 (pw (-40)) W h1 h2 (R_Q s1 (by omega) (by omega)))
      have hp0 := fun W => pow04_any 0 (by omega) (by omega) W
      rw [pw_zero] at hp0
      have HP0 := Lib.hid hp0
      have HP40 := Lib.hid (fun W => pow04_any (-40) (by omega) (by omega) W)
      have HEC := Lib.hid (fun W => exact18_any cb hclt hfc W)
      have HEX := Lib.hid (fun i j W => exact18_any (g i j) (hglt i j) (hgf i j) W)
      have HAB := Lib.hid (fun i j W u h => abs03_any u (fv (g i j)) W h)
      have HAD := Lib.hid (fun i j (hi : i ≤ 6) W u1 u2 h1 h2 => add03_any u1 u2 (colR g j i) (ab (fv (g i j))) W h1 h2 (R_Q (a := 1074) (b := 1040) (by rw [← colR_succ]; exact hsr j (i + 1) (by omega)) (by omega) (by omega)))
      have HM1 := Lib.hid (fun k W u1 u2 h1 h2 => mul03_any u1 u2 (fv cb) (fv (g k k)) W h1 h2 (R_Q (R_mul (R_fv hfc) (R_fv (hgf k k))) (by omega) (by omega)))
      have HM2 := Lib.hid (fun j (hj : j ≤ 5) W u1 u2 h1 h2 => mul03_any u1 u2 (colR g j (j + 1)) (1 - pw (-40)) W h1 h2 (R_Q (R_mul (hsr j (j + 1) (by omega)) s1) (by omega) (by omega)))
      have HC1 := Lib.hid (fun W u1 u2 h1 h2 => cmp03_any u1 u2 (fv cb) (1 - pw (-40)) W h1 h2)
      have HC2 := Lib.hid (fun j k W u1 u2 h1 h2 => cmp03_any u1 u2 (fv cb * fv (g k k)) (colR g j (j + 1) * (1 - pw (-40))) W h1 h2)
      have hq1 : decide (cmpQ (fv cb) (1 - pw (-40)) < 0) = false := by exact cmpQ_nlt hl1
      have hq2 : ∀ j k, j < n → k < n → decide (cmpQ (fv cb * fv (g k k)) (colR g j (j + 1) * (1 - pw (-40))) < 0) = false := fun j k hj hk => by exact cmpQ_nlt (hl2 j k hj hk)
      have HQ2 := Lib.hid hq2
      have HCS := Lib.hid (colR_succ g)
      have HCZ := Lib.hid (colR_zero g)
      have HGET := Lib.hid hget; have HCD := Lib.hid hcd
      generalize colR g = S at *
      generalize cmpQ (fv cb) (1 - pw (-40)) = cq1 at *
      generalize 1 - pw (-40) = AL at *
      generalize fv cb = CV at *
      obtain ⟨hn1, hn6⟩ := hn6
      clear hx k0 hcd hE hok hcl hfc hl1 hl2 hcv hclt hgf hglt hget hgg hsr s1 hp0 hq2 hn
      go_enter Try.func6, Try.ntmps6
      go_wp2_with fail
      refine (HCD.out _ (K0.out.arg (.head _))).mono ?_
      rintro e w1 ⟨rfl, hb⟩
      have K1 := Lib.hid (K0.out.call hb)
      clear hb
      go_wp2_with fail
      refine (HP0.out _).mono ?_
      rintro e w2 ⟨⟨v, rfl, hv⟩, hb2⟩
      have K2 := Lib.hid (K1.out.call hb2)
      obtain ⟨d2, A2, c2, rfl, ha2, hv2⟩ := hv.a
      have HV2 := Lib.hid hv
      unfold dyV at HV2 ⊢
      clear hv ha2 hv2 hb2
      go_wp2_with fail
      refine (HP40.out _).mono ?_
      rintro e w3 ⟨⟨v, rfl, hv⟩, hb3⟩
      have K3 := Lib.hid (K2.out.call hb3)
      have hk2 := HV2.out.below hb3
      clear HV2
      have HV2 := Lib.hid hk2
      clear hk2
      obtain ⟨d3, A3, c3, rfl, ha3, hv3⟩ := hv.a
      have HV3 := Lib.hid hv
      unfold dyV at HV3 ⊢
      clear hv ha3 hv3 hb3
      go_wp2_with fail
      refine (HSU.out _ _ _ HV2.out HV3.out).mono ?_
      rintro e w4 ⟨⟨v, rfl, hv⟩, hb4⟩
      obtain ⟨d4, A4, c4, rfl, ha4, hv4⟩ := hv.a
      have k4 := (K3.out.call hb4).push ha4
      obtain ⟨E4, hE4⟩ : ∃ E4, E4 = w4.alloc (.cells #[.bool d4.neg, .slice A4 (nd d4.n).length c4, .int .i64 d4.e] 38) := ⟨_, rfl⟩
      rw [← hE4] at k4
      obtain ⟨g4, hg4, k4⟩ := k4.name
      have K4 := Lib.hid k4
      have HE4 := Lib.hid hE4
      have HX4 := Lib.hid hv4
      have HG4 := Lib.hid hg4
      unfold dyV
      clear hv ha4 hb4 k4 hE4 hv4 hg4
      go_wp2_with fail
      rw [← HE4.out, HG4.out]
      clear HE4
      have HKE := Lib.hid (fun Y (h : Below E4.heap.size E4 Y) => And.intro ((K4.out.call h).box (.head _)).c3 h)
      have HD4 := Lib.hid (fun Y (h : Below E4.heap.size E4 Y) => show DyV Y (dyV d4 A4 c4) AL from (by have := ((K4.out.call h).val (.head _)).v; rw [HX4.out] at this; exact this))
      unfold dyV at HD4
      go_cut [30] (fun s30 wx => s30 = .bool false ∧ KeepD w wx [(g4, d4, A4, c4)] [(A, f.xs, c)] [(w.heap.size, 24, #[.int .i64 (n : Int), .slice A f.xs.length c, .int .i64 f.R, .int .i64 f.T])])
      case first =>
        go_region_held3 (fun Y => ((Y.cell? ⟨g4, 0, none⟩ = some (.bool d4.neg) ∧ Y.cell? ⟨g4, 1, none⟩ = some (.slice A4 (nd d4.n).length c4) ∧ Y.cell? ⟨g4, 2, none⟩ = some (.int .i64 d4.e)) ∧ Below E4.heap.size E4 Y))
          ((refine HKE.out _ ?_; (repeat (first | assumption | exact Below.refl _ _ | refine Below.allocs ?_ _ | refine Below.drews ?_ | refine Below.chain ?_ (by assumption)))))
          (first
            | (go_at_call 22; (refine (HEC.out _).mono ?_); rintro e y5 ⟨⟨v, rfl, hcv⟩, hb5⟩; obtain ⟨d5, A5, c5, rfl, ha5, hv5⟩ := hcv.a; unfold dyV at *)
            | (go_at_call 29; (refine (HC1.out _ _ _ (hcv.below (by repeat (first | assumption | exact Below.refl _ _ | refine Below.allocs ?_ _ | refine Below.drews ?_ | refine Below.chain ?_ (by assumption)))) (HD4.out _ (by repeat (first | assumption | exact Below.refl _ _ | refine Below.allocs ?_ _ | refine Below.drews ?_ | refine Below.chain ?_ (by assumption))))).mono ?_); rintro e y6 ⟨rfl, hb6⟩; have hbE : Below E4.heap.size E4 y6 := (Below.chain (by repeat (first | assumption | exact Below.refl _ _ | refine Below.allocs ?_ _ | refine Below.drews ?_ | refine Below.chain ?_ (by assumption))) hb6)))
        all_goals
          have HK := Lib.hid (K4.out.call hbE)
          go_wp2_with fail
          go_meet
          exact ⟨rfl, HK.out⟩
      case rest =>
        obtain ⟨rfl, hK⟩ := hcut
        have K5 := Lib.hid hK
        have HDV4 := Lib.hid HX4.out
        clear hK HKE HD4 hq1
        go_wp2_with fail
        go_loopw [6] (fun jv wr => ∃ j : Nat, j ≤ n ∧ jv = .int .i64 (j : Int) ∧ KeepD w wr [(g4, d4, A4, c4)] [(A, f.xs, c)] [(w.heap.size, 24, #[.int .i64 (n : Int), .slice A f.xs.length c, .int .i64 f.R, .int .i64 f.T])]) (fun jv _ => n - (intOf jv).toNat)
        case atStart => exact ⟨0, Nat.zero_le _, rfl, K5.out⟩
        case round =>
          obtain ⟨j, hj, rfl, hK⟩ := hrel
          have KJ := Lib.hid hK
          obtain ⟨r0, r1, r2, r3⟩ := (KJ.out.other (.head _)).c4
          clear hK
          by_cases hjn : (j : Int) < (n : Int)
          · have k7 := KJ.out.pushz
            obtain ⟨E7, hE7⟩ : ∃ E7, E7 = wr.alloc (.cells #[.bool false, .slice none 0 0, .int .i64 0] 38) := ⟨_, rfl⟩
            rw [← hE7] at k7
            obtain ⟨g7, hg7, k7⟩ := k7.name
            have K7 := Lib.hid k7
            have HE7 := Lib.hid hE7
            have HG7 := Lib.hid hg7
            have HNE4 := Lib.hid (show g4 ≠ g7 by rw [← hg7]; exact Nat.ne_of_lt (KJ.out.box (.head _)).lt)
            clear k7 hE7 hg7
            go_wp2_with fail
            rw [← HE7.out, HG7.out]
            clear HE7 r0 r1 r2 r3
            go_loopw [8] (fun iv wr => ∃ (i : Nat) (d7 : Dy) (A7 : Option Addr) (c7 : Nat), i ≤ j + 1 ∧ iv = .int .i64 (i : Int) ∧ KeepD w wr [(g7, d7, A7, c7), (g4, d4, A4, c4)] [(A, f.xs, c)] [(w.heap.size, 24, #[.int .i64 (n : Int), .slice A f.xs.length c, .int .i64 f.R, .int .i64 f.T])] ∧ d7.v = S j i) (fun iv _ => j + 1 - (intOf iv).toNat)
            case atStart => exact ⟨0, Dy.zero, none, 0, Nat.zero_le _, rfl, K7.out, by rw [HCZ.out]; exact Dy.zero_v⟩
            case round =>
              rename_i wo
              obtain ⟨i, d7, A7, c7, hi, rfl, hK, hv7⟩ := hrel
              have KI := Lib.hid hK
              have HV7 := Lib.hid hv7
              obtain ⟨r0, r1, r2, r3⟩ := (KI.out.other (.head _)).c4
              obtain ⟨b0, b1, b2⟩ := (KI.out.box (.head _)).c3
              clear hK hv7
              by_cases hij : (i : Int) ≤ (j : Int)
              · have HNG := Lib.hid (fun Y (h : Below wr.heap.size wr Y) => HGET.out i j Y ((KI.out.call h).arg (.head _)))
                have HNX := Lib.hid (HEX.out i j)
                have HNA := Lib.hid (HAB.out i j)
                have HND := Lib.hid (fun Y u2 (h : Below wr.heap.size wr Y) h2 => HAD.out i j (by omega) Y _ u2 (by have := ((KI.out.call h).val (.head _)).v; rw [HV7.out] at this; exact this) h2)
                have hs := HCS.out j i
                have HS := Lib.hid hs
                unfold dyV at HND
                generalize g i j = x at *
                clear hs
                go_wp2_with fail
                go_region_with (first
                  | (go_at_call 23; (refine (HNG.out _ ?_).mono ?_); (exact (by repeat (first | assumption | exact Below.refl _ _ | refine Below.allocs ?_ _ | refine Below.drews ?_ | refine Below.chain ?_ (by assumption)))); rintro e y1 ⟨rfl, hb1⟩; have hbA : Below wr.heap.size wr y1 := (Below.chain (by repeat (first | assumption | exact Below.refl _ _ | refine Below.allocs ?_ _ | refine Below.drews ?_ | refine Below.chain ?_ (by assumption))) hb1); obtain ⟨b0, b1, b2⟩ := ((KI.out.call hbA).box (.head _)).c3)
                  | (go_at_call 22; (refine (HNX.out _).mono ?_); rintro e y2 ⟨⟨v, rfl, hxv⟩, hb2⟩; obtain ⟨d2, A2, c2, rfl, ha2, hv2⟩ := hxv.a; have hbA : Below wr.heap.size wr y2 := (Below.chain (by repeat (first | assumption | exact Below.refl _ _ | refine Below.allocs ?_ _ | refine Below.drews ?_ | refine Below.chain ?_ (by assumption))) hb2); obtain ⟨b0, b1, b2⟩ := ((KI.out.call hbA).box (.head _)).c3; unfold dyV at *)
                  | (go_at_call 27; (refine (HNA.out _ _ ?_).mono ?_); (exact (hxv.below (by repeat (first | assumption | exact Below.refl _ _ | refine Below.allocs ?_ _ | refine Below.drews ?_ | refine Below.chain ?_ (by assumption))))); rintro e y3 ⟨⟨v, rfl, hav⟩, hb3⟩; obtain ⟨d3, A3, c3, rfl, ha3, hv3⟩ := hav.a; have hbA : Below wr.heap.size wr y3 := (Below.chain (by repeat (first | assumption | exact Below.refl _ _ | refine Below.allocs ?_ _ | refine Below.drews ?_ | refine Below.chain ?_ (by assumption))) hb3); obtain ⟨b0, b1, b2⟩ := ((KI.out.call hbA).box (.head _)).c3; unfold dyV at *)
                  | (go_at_call 26; (refine (HND.out _ _ ?_ ?_).mono ?_); (exact (by repeat (first | assumption | exact Below.refl _ _ | refine Below.allocs ?_ _ | refine Below.drews ?_ | refine Below.chain ?_ (by assumption)))); (exact (hav.below (by repeat (first | assumption | exact Below.refl _ _ | refine Below.allocs ?_ _ | refine Below.drews ?_ | refine Below.chain ?_ (by assumption))))); rintro e y4 ⟨⟨v, rfl, hsv⟩, hb4⟩; obtain ⟨d5, A5, c5, rfl, ha5, hv5⟩ := hsv.a; have hbX : Below wr.heap.size wr y4 := (Below.chain (by repeat (first | assumption | exact Below.refl _ _ | refine Below.allocs ?_ _ | refine Below.drews ?_ | refine Below.chain ?_ (by assumption))) hb4); obtain ⟨z0, z1, z2⟩ := ((KI.out.call hbX).box (.head _)).c3; obtain ⟨f0, f1, f2⟩ := ((KI.out.call hbX).box (.head _)).f3; unfold dyV at *))
                all_goals
                  have KZ := Lib.hid ((KI.out.call hbX).store (.head _) (L' := [(g4, d4, A4, c4)]) (fun y hy => by rw [List.mem_singleton] at hy; subst hy; exact ⟨.tail _ (.head _), HNE4.out⟩) ha5)
                  have HV5 := Lib.hid (hv5.trans HS.out.symm)
                  clear ha5 hv5
                  go_wp2
                  go_roundw
                  case rel => exact ⟨i + 1, d5, A5, c5, by omega, by go_num, KZ.out, HV5.out⟩
                  case measure => simp [intOf]; omega
              · obtain rfl : i = j + 1 := by omega
                clear b0 b1 b2 r0 r1 r2 r3
                go_wp2_with fail
                go_loopw [9] (fun kv wr => ∃ k : Nat, k ≤ n ∧ kv = .int .i64 (k : Int) ∧ KeepD w wr [(g7, d7, A7, c7), (g4, d4, A4, c4)] [(A, f.xs, c)] [(w.heap.size, 24, #[.int .i64 (n : Int), .slice A f.xs.length c, .int .i64 f.R, .int .i64 f.T])]) (fun kv _ => n - (intOf kv).toNat)
                case atStart => exact ⟨0, Nat.zero_le _, rfl, KI.out⟩
                case round =>
                  rename_i wi
                  obtain ⟨k, hk, rfl, hK⟩ := hrel
                  have KK := Lib.hid hK
                  obtain ⟨r0, r1, r2, r3⟩ := (KK.out.other (.head _)).c4
                  clear hK
                  by_cases hkn : (k : Int) < (n : Int)
                  · have HNG := Lib.hid (fun Y (h : Below wr.heap.size wr Y) => HGET.out k k Y ((KK.out.call h).arg (.head _)))
                    have HNX := Lib.hid (HEX.out k k)
                    have HNM := Lib.hid (HM1.out k)
                    have HN2 := Lib.hid (fun Y (h : Below wr.heap.size wr Y) => HM2.out j (by omega) Y _ _ (by have := ((KK.out.call h).val (.head _)).v; rw [HV7.out] at this; exact this) (by have := ((KK.out.call h).val (.tail _ (.head _))).v; rw [HDV4.out] at this; exact this))
                    have HNC := Lib.hid (HC2.out j k)
                    have hq2 := HQ2.out j k (by omega) (by omega)
                    have HKE := Lib.hid (fun Y (h : Below wr.heap.size wr Y) => And.intro ((KK.out.call h).box (.head _)).c3 (And.intro ((KK.out.call h).box (.tail _ (.head _))).c3 (And.intro ((KK.out.call h).other (.head _)).c4 h)))
                    unfold dyV at HN2
                    generalize cmpQ (CV * fv (g k k)) (S j (j + 1) * AL) = cq at *
                    generalize CV * fv (g k k) = P1 at *
                    generalize S j (j + 1) * AL = P2 at *
                    generalize g k k = x at *
                    go_wp2_with fail
                    go_region_held3 (fun Y => ((Y.cell? ⟨g7, 0, none⟩ = some (.bool d7.neg) ∧ Y.cell? ⟨g7, 1, none⟩ = some (.slice A7 (nd d7.n).length c7) ∧ Y.cell? ⟨g7, 2, none⟩ = some (.int .i64 d7.e)) ∧ (Y.cell? ⟨g4, 0, none⟩ = some (.bool d4.neg) ∧ Y.cell? ⟨g4, 1, none⟩ = some (.slice A4 (nd d4.n).length c4) ∧ Y.cell? ⟨g4, 2, none⟩ = some (.int .i64 d4.e)) ∧ (Y.cell? ⟨w.heap.size, 0, none⟩ = some (.int .i64 (n : Int)) ∧ Y.cell? ⟨w.heap.size, 1, none⟩ = some (.slice A f.xs.length c) ∧ Y.cell? ⟨w.heap.size, 2, none⟩ = some (.int .i64 f.R) ∧ Y.cell? ⟨w.heap.size, 3, none⟩ = some (.int .i64 f.T)) ∧ Below wr.heap.size wr Y))
                      ((refine HKE.out _ ?_; (repeat (first | assumption | exact Below.refl _ _ | refine Below.allocs ?_ _ | refine Below.drews ?_ | refine Below.chain ?_ (by assumption)))))
                      (first
                        | (go_at_call 22; (with_reducible refine (HEC.out _).mono ?_); rintro e y1 ⟨⟨v, rfl, hcv⟩, hb1⟩; obtain ⟨d1, A1, c1, rfl, ha1, hv1⟩ := hcv.a; unfold dyV at *)
                        | (go_at_call 23; (refine (HNG.out _ (by repeat (first | assumption | exact Below.refl _ _ | refine Below.allocs ?_ _ | refine Below.drews ?_ | refine Below.chain ?_ (by assumption)))).mono ?_); rintro e y2 ⟨rfl, hb2⟩)
                        | (go_at_call 22; (with_reducible refine (HNX.out _).mono ?_); rintro e y3 ⟨⟨v, rfl, hxv⟩, hb3⟩; obtain ⟨d3, A3, c3, rfl, ha3, hv3⟩ := hxv.a; unfold dyV at *)
                        | (go_at_call 21; (with_reducible refine (HNM.out _ _ _ (hcv.below (by repeat (first | assumption | exact Below.refl _ _ | refine Below.allocs ?_ _ | refine Below.drews ?_ | refine Below.chain ?_ (by assumption)))) (hxv.below (by repeat (first | assumption | exact Below.refl _ _ | refine Below.allocs ?_ _ | refine Below.drews ?_ | refine Below.chain ?_ (by assumption))))).mono ?_); rintro e y5 ⟨⟨v, rfl, hmv⟩, hb5⟩; obtain ⟨d5, A5, c5, rfl, ha5, hv5⟩ := hmv.a; unfold dyV at *)
                        | (go_at_call 21; (with_reducible refine (HN2.out _ (by repeat (first | assumption | exact Below.refl _ _ | refine Below.allocs ?_ _ | refine Below.drews ?_ | refine Below.chain ?_ (by assumption)))).mono ?_); rintro e y6 ⟨⟨v, rfl, hnv⟩, hb6⟩; obtain ⟨d6, A6, c6, rfl, ha6, hv6⟩ := hnv.a; unfold dyV at *)
                        | (go_at_call 29; (with_reducible refine (HNC.out _ _ _ (hmv.below (by repeat (first | assumption | exact Below.refl _ _ | refine Below.allocs ?_ _ | refine Below.drews ?_ | refine Below.chain ?_ (by assumption)))) (hnv.below (by repeat (first | assumption | exact Below.refl _ _ | refine Below.allocs ?_ _ | refine Below.drews ?_ | refine Below.chain ?_ (by assumption))))).mono ?_); rintro e y8 ⟨rfl, hb8⟩; have hbE : Below wr.heap.size wr y8 := (Below.chain (by repeat (first | assumption | exact Below.refl _ _ | refine Below.allocs ?_ _ | refine Below.drews ?_ | refine Below.chain ?_ (by assumption))) hb8)))
                    all_goals
                      have HK := Lib.hid (KK.out.call hbE)
                      go_wp2
                      go_roundw
                      case rel => exact ⟨k + 1, by omega, by go_num, HK.out⟩
                      case measure => simp [intOf]; omega
                  · obtain rfl : k = n := by omega
                    go_wp2
                    go_roundw
                    case rel => exact ⟨j + 1, by omega, by go_num, KK.out.few (fun y hy => .tail _ hy) (fun y hy => hy) (fun y hy => hy)⟩
                    case measure => simp [intOf]; omega
          · go_wp2_with fail
            refine (HLV.out _).mono ?_
            rintro e w9 ⟨rfl, hb⟩
            have HB := Lib.hid (KJ.out.call hb).below
            clear hb
            go_wp2
            go_ret
            exact ⟨rfl, HB.out⟩
    · have t0 : (condE f != 0) = true := by rw [bne_iff_ne]; exact hE
      have HCD := Lib.hid hcd
      unfold facV at HCD ⊢
      clear hx k0 hcd hE
      generalize condE f = E at *
      generalize condV f = V at *
      go_enter Try.func6, Try.ntmps6
      go_wp2_with fail
      refine (HCD.out _ (K0.out.arg (.head _))).mono ?_
      rintro e w1 ⟨rfl, hb1⟩
      have K1 := Lib.hid (K0.out.call hb1)
      clear hb1
      go_wp2_with fail
      refine (HLV.out _).mono ?_
      rintro e w6 ⟨rfl, hb6⟩
      have HB := Lib.hid (K1.out.call hb6).below
      clear hb6
      go_wp2
      go_ret
      exact ⟨rfl, HB.out⟩
end Go.Proofs.Ytigacobphgeeaaa
