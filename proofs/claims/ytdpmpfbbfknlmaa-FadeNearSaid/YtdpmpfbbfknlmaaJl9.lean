/- Contract of the document's Check of layer 9. -/
import Derived.Test.YtdpmpfbbfknlmaaJ9
import Derived.Test.YtdpmpfbbfknlmaaJk9
set_option linter.unusedVariables false
namespace Go.Proofs.Ytdpmpfbbfknlmaa
open Go.RowKit Go.Shelf Lev

set_option maxRecDepth 100000 in
set_option maxHeartbeats 8000000 in
theorem check09_any (n : Nat) (hn : 1 ≤ n ∧ n ≤ 6) (l m : List DyE) (A B : Option Addr) (ca cb : Nat) (w : World) (hl : DyL w A l ca) (hm : DyL w B m cb) (S : Nat) (hS : sizeI (n : Int) = (S : Int)) (hS0 : S ≠ 0) (hlS : l.length = S) (hmS : m.length = S)
    (hst : ∀ i j, i ≤ j → j ≤ n → st (n + 1) i + (j - i) < S) (hz : ∀ i, i ≤ n → 0 ≤ lv l (st (n + 1) i) ∧ R 5000 5000 (lv l (st (n + 1) i)))
    (hR : ∀ i j, i ≤ j → j ≤ n → R 8000 8000 (lv m (st (n + 1) i + (j - i)) - lv l (st (n + 1) i + (j - i))))
    (hH : ∀ i j, i ≤ j → j ≤ n → ∀ U V, 0 ≤ U → 0 ≤ V → lv l (st (n + 1) i) ≤ U * U → lv l (st (n + 1) j) ≤ V * V → ab (lv m (st (n + 1) i + (j - i)) - lv l (st (n + 1) i + (j - i))) ≤ bdQ U V) :
    Calls Try.prog 8 #[.int .i64 (n : Int), .slice A S ca, .slice A S ca, .slice B S cb, .int .i64 1] w fun e w' => e = .returned (.tuple #[.int .i64 0, .bool true]) ∧ Below w.heap.size w w' := by
  have HSI := Lib.hid (fun W => rsize_any (n : Int) W)
  rw [hS] at HSI
  have HNO := Lib.hid (norms09_any n hn l A ca w hl (fun i hi => by have := hst i i (Nat.le_refl _) hi; omega) hz)
  rw [hlS] at HNO
  have HAT := Lib.hid (fun (i j : Nat) (h1 : i ≤ j) (h2 : j ≤ n) W => show Calls Try.prog 20 #[.int .i64 (n : Int), .int .i64 (i : Int), .int .i64 (j : Int)] W fun e w' => e = .returned (.tuple #[.int .i64 ((st (n + 1) i + (j - i) : Nat) : Int), .bool true]) ∧ W = w' from by
    refine (rat_yes (n : Int) i j (n + 1) (by omega) (by omega) (by omega) (by omega) (by omega) (by omega) W).mono ?_
    rintro e w' ⟨rfl, rfl⟩
    exact ⟨ret_ib (by rw [Int.toNat_natCast]; omega) rfl, rfl⟩)
  have t0 : ((S : Int) == 0) = false := by rw [beq_eq_false_iff_ne]; omega
  have t1 : ((S : Int) != (S : Int)) = false := by rw [bne_eq_false_iff_eq]
  have HL := Lib.hid hl; have HM := Lib.hid hm; have HST := Lib.hid hst; have HRR := Lib.hid hR; have HH := Lib.hid hH; have HLS := Lib.hid hlS; have HMS := Lib.hid hmS
  obtain ⟨hn1, hn6⟩ := hn
  clear hl hm hS hS0 hlS hmS hst hz hR hH
  go_enter Try.func8, Try.ntmps8
  go_wp2_with fail
  refine (HSI.out _).mono ?_
  rintro e w0 ⟨rfl, rfl⟩
  go_wp2_with fail
  refine HNO.out.mono ?_
  rintro e w1 ⟨⟨C, o, co, rfl, ho, hol, hov⟩, hb1⟩
  have HO := Lib.hid ho; have HOL := Lib.hid hol; have HOV := Lib.hid hov; have HB1 := Lib.hid hb1
  clear ho hol hov hb1
  go_wp2_with fail
  go_loopw [14] (fun iv wr => ∃ k : Nat, k ≤ n + 1 ∧ iv = .int .i64 (k : Int) ∧ Below w1.heap.size w1 wr) (fun iv _ => n + 1 - (intOf iv).toNat)
  case atStart => exact ⟨0, Nat.zero_le _, rfl, Below.refl _ _⟩
  case round =>
    obtain ⟨i, hi, rfl, hbel⟩ := hrel
    have HBI := Lib.hid hbel
    clear hbel
    by_cases hin : (i : Int) ≤ (n : Int)
    · go_wp2_with fail
      go_loopw [15] (fun jv wr => ∃ k : Nat, i ≤ k ∧ k ≤ n + 1 ∧ jv = .int .i64 (k : Int) ∧ Below w1.heap.size w1 wr) (fun jv _ => n + 1 - (intOf jv).toNat)
      case atStart => exact ⟨i, Nat.le_refl _, hi, rfl, HBI.out⟩
      case round =>
        rename_i wi
        obtain ⟨j, hij, hj, rfl, hbel⟩ := hrel
        by_cases hjn : (j : Int) ≤ (n : Int)
        · have HBJ := Lib.hid hbel
          have hjn2 : j ≤ n := by omega
          have hP := HST.out i j hij hjn2
          have HA1 := Lib.hid (HAT.out i j hij hjn2)
          have hRR := HRR.out i j hij hjn2
          have hio : i < o.length := by have := HOL.out; omega
          have hjo : j < o.length := by have := HOL.out; omega
          have hHH := HH.out i j hij hjn2 _ _ (HOV.out i hio).1 (HOV.out j hjo).1 (HOV.out i hio).2.1 (HOV.out j hjo).2.1
          have hRi := (HOV.out i hio).2.2
          have hRj := (HOV.out j hjo).2.2
          generalize st (n + 1) i + (j - i) = P at *
          have hlw := (HL.out.below HB1.out).below hbel
          have hmw := (HM.out.below HB1.out).below hbel
          have how := HO.out.below hbel
          have hPl : P < l.length := by have := HLS.out; omega
          have hPm : P < m.length := by have := HMS.out; omega
          have hPS : (P : Int) < (S : Int) := by omega
          obtain ⟨bl, ol, hAl, _, _⟩ := hlw.reads (by omega)
          obtain ⟨bm, om, hAm, _, _⟩ := hmw.reads (by omega)
          obtain ⟨bo, oo, hAo, _, _⟩ := how.reads (by omega)
          have hlw2 := hAl ▸ hlw
          have hmw2 := hAm ▸ hmw
          have how2 := hAo ▸ how
          rw [hAl, hAm, hAo]
          obtain ⟨⟨a0, a1, a2⟩, hd1⟩ := hlw2.at hPl
          obtain ⟨⟨e0, e1, e2⟩, hd2⟩ := hmw2.at hPm
          rw [lv_get hPl, lv_get hPm] at hRR hHH
          have HSU := Lib.hid (fun Y (h : Below wr.heap.size wr Y) => sub03_any _ _ _ _ Y (hd2.below h).v (hd1.below h).v (R_Q hRR (by omega) (by omega)))
          have HABS := Lib.hid (fun Y u h => abs03_any u ((m[P]'hPm).1.v - (l[P]'hPl).1.v) Y h)
          have HBO := Lib.hid (fun Y (h : Below wr.heap.size wr Y) => bound09_any _ _ _ _ Y (((how2.below h).at hio).2).v (((how2.below h).at hjo).2).v hRi hRj)
          have HCM := Lib.hid (fun Y u v h1 h2 => cmp03_any u v (ab ((m[P]'hPm).1.v - (l[P]'hPl).1.v)) (bdQ (o[i]'hio).1.v (o[j]'hjo).1.v) Y h1 h2)
          have hcq := cmpQ_le.2 hHH
          have KE1 := Lib.hid (fun Y (h : Below wr.heap.size wr Y) => And.intro ((hmw2.below h).at hPm).1 (And.intro ((hlw2.below h).at hPl).1 h))
          have KE2 := Lib.hid (fun Y (h : Below wr.heap.size wr Y) => And.intro ((how2.below h).at hio).1 ((how2.below h).at hjo).1)
          obtain ⟨⟨i0, i1, i2⟩, _⟩ := how2.at hio
          obtain ⟨⟨j0, j1, j2⟩, _⟩ := how2.at hjo
          have hio2 : (i : Int) < (n : Int) + 1 := by omega
          have hjo2 : (j : Int) < (n : Int) + 1 := by omega
          have hdec : decide (0 < cmpQ (ab ((m[P]'hPm).1.v - (l[P]'hPl).1.v)) (bdQ (o[i]'hio).1.v (o[j]'hjo).1.v)) = false := by rw [decide_eq_false_iff_not]; omega
          generalize cmpQ (ab ((m[P]'hPm).1.v - (l[P]'hPl).1.v)) (bdQ (o[i]'hio).1.v (o[j]'hjo).1.v) = cq at *
          generalize ab ((m[P]'hPm).1.v - (l[P]'hPl).1.v) = P1 at *
          generalize (m[P]'hPm).1.v - (l[P]'hPl).1.v = P2 at *
          generalize bdQ (o[i]'hio).1.v (o[j]'hjo).1.v = P3 at *
          unfold dyV at HSU HBO
          clear hlw hmw how hlw2 hmw2 how2 hd1 hd2 hRR hHH hRi hRj hcq hAl hAm hAo hbel
          generalize hx1 : l[P] = x1 at *
          generalize hx2 : m[P] = x2 at *
          generalize hx3 : o[i] = x3 at *
          generalize hx4 : o[j] = x4 at *
          obtain ⟨d1, A1, c1⟩ := x1
          obtain ⟨d2, A2, c2⟩ := x2
          obtain ⟨d3, A3, c3⟩ := x3
          obtain ⟨d4, A4, c4⟩ := x4
          dsimp only at a0 a1 a2 e0 e1 e2 i0 i1 i2 j0 j1 j2 HSU HBO KE1 KE2
          clear hx1 hx2 hx3 hx4 hPl hPm hio hjo
          go_wp2_with fail
          refine (HA1.out _).mono ?_
          rintro e w0 ⟨rfl, rfl⟩
          have hbelW := HBJ.out
          clear a0 a1 a2 e0 e1 e2 i0 i1 i2 j0 j1 j2
          go_wp2_with fail
          go_region_held3 (fun Y => (Y.cell? ⟨bm, om + P * 3, none⟩ = some (.bool d2.neg) ∧ Y.cell? ⟨bm, om + P * 3 + 1, none⟩ = some (.slice A2 (nd d2.n).length c2) ∧ Y.cell? ⟨bm, om + P * 3 + 2, none⟩ = some (.int .i64 d2.e)) ∧ (Y.cell? ⟨bl, ol + P * 3, none⟩ = some (.bool d1.neg) ∧ Y.cell? ⟨bl, ol + P * 3 + 1, none⟩ = some (.slice A1 (nd d1.n).length c1) ∧ Y.cell? ⟨bl, ol + P * 3 + 2, none⟩ = some (.int .i64 d1.e)) ∧ Below wr.heap.size wr Y)
            ((refine KE1.out _ ?_; first | (refine Below.setCell (Below.setCell (Below.setCell hbW (by exact bz.ge) _) (by exact bz.ge) _) (by exact bz.ge) _) | (repeat (first | assumption | exact Below.refl _ _ | refine Below.allocs ?_ _ | refine Below.drews ?_ | refine Below.chain ?_ (by assumption)))))
            (first
              | (go_at_call 22; (refine (HSU.out _ (by repeat (first | assumption | exact Below.refl _ _ | refine Below.allocs ?_ _ | refine Below.drews ?_ | refine Below.chain ?_ (by assumption)))).mono ?_); rintro e w5 ⟨⟨v, rfl, hv⟩, hb5⟩; obtain ⟨d5, A5, c5, rfl, ha5, hv5⟩ := hv.a; unfold dyV at *; (first | (have bz := ownZ_new (W := wr) (by repeat (first | assumption | exact Below.refl _ _ | refine Below.allocs ?_ _ | refine Below.drews ?_ | refine Below.chain ?_ (by assumption))) hb5) | (have bz := ownZ_newd (W := wr) (by repeat (first | assumption | exact Below.refl _ _ | refine Below.allocs ?_ _ | refine Below.drews ?_ | refine Below.chain ?_ (by assumption))) hb5) | (have bz := bz.call hb5) | skip); (try (obtain ⟨x0, x1, x2⟩ := bz.bk.c3; obtain ⟨y0, y1, y2⟩ := bz.bk.f3)))
              | (go_at_call 21; (with_reducible refine (HABS.out _ _ (hv.below (by repeat (first | assumption | exact Below.refl _ _ | refine Below.allocs ?_ _ | refine Below.drews ?_ | refine Below.chain ?_ (by assumption))))).mono ?_); rintro e w8 ⟨⟨v, rfl, hav⟩, hb8⟩; obtain ⟨d8, A8, c8, rfl, ha8, hv8⟩ := hav.a; unfold dyV at *; (first | (have bz := ownZ_new (W := wr) (by repeat (first | assumption | exact Below.refl _ _ | refine Below.allocs ?_ _ | refine Below.drews ?_ | refine Below.chain ?_ (by assumption))) hb8) | (have bz := ownZ_newd (W := wr) (by repeat (first | assumption | exact Below.refl _ _ | refine Below.allocs ?_ _ | refine Below.drews ?_ | refine Below.chain ?_ (by assumption))) hb8) | (have bz := bz.call hb8) | skip); (try (obtain ⟨x0, x1, x2⟩ := bz.bk.c3; obtain ⟨y0, y1, y2⟩ := bz.bk.f3)); have hbW : Below wr.heap.size wr w8 := (Below.chain (by repeat (first | assumption | exact Below.refl _ _ | refine Below.allocs ?_ _ | refine Below.drews ?_ | refine Below.chain ?_ (by assumption))) hb8)))
          all_goals
            have HBW := Lib.hid hbW; have HA8 := Lib.hid ha8; have HV8 := Lib.hid hv8
            refine namedQ ?_
            intro E hE
            first
            | (have ke := ((KeepD.start wr).call HBW.out).push HA8.out
               rw [← hE] at ke
               obtain ⟨g8, hg8, ke⟩ := ke.name
               have KE := Lib.hid ke
               rw [hg8]
               clear hg8 ke)
            | (have ke := (KeepD.start wr).fill HBW.out bz HA8.out
               unfold stored3 at ke
               rw [← hE] at ke
               obtain ⟨g8, hg8, ke⟩ := ke.name
               have KE := Lib.hid ke
               rw [hg8]
               clear hg8 ke)
            have HKE := Lib.hid (fun Y (h : Below E.heap.size E Y) => And.intro ((KE.out.call h).box (.head _)).c3 (And.intro (KE2.out Y (KE.out.call h).below).1 (And.intro (KE2.out Y (KE.out.call h).below).2 h)))
            have HBD := Lib.hid (fun Y (h : Below E.heap.size E Y) => HBO.out Y (KE.out.call h).below)
            have HCC := Lib.hid (fun Y v (h : Below E.heap.size E Y) h2 => HCM.out Y _ v (by have := ((KE.out.call h).val (.head _)).v; rw [HV8.out] at this; exact this) h2)
            unfold dyV at HCC
            clear hE hav hv hb5 hb8 ha5 hv5 ha8 hv8 HV8 HA8 HBW hbW
            go_wp2_with fail
            go_region_held3 (fun Y => ((Y.cell? ⟨g8, 0, none⟩ = some (.bool d8.neg) ∧ Y.cell? ⟨g8, 1, none⟩ = some (.slice A8 (nd d8.n).length c8) ∧ Y.cell? ⟨g8, 2, none⟩ = some (.int .i64 d8.e)) ∧ (Y.cell? ⟨bo, oo + i * 3, none⟩ = some (.bool d3.neg) ∧ Y.cell? ⟨bo, oo + i * 3 + 1, none⟩ = some (.slice A3 (nd d3.n).length c3) ∧ Y.cell? ⟨bo, oo + i * 3 + 2, none⟩ = some (.int .i64 d3.e)) ∧ (Y.cell? ⟨bo, oo + j * 3, none⟩ = some (.bool d4.neg) ∧ Y.cell? ⟨bo, oo + j * 3 + 1, none⟩ = some (.slice A4 (nd d4.n).length c4) ∧ Y.cell? ⟨bo, oo + j * 3 + 2, none⟩ = some (.int .i64 d4.e)) ∧ Below E.heap.size E Y))
              ((refine HKE.out _ ?_; (repeat (first | assumption | exact Below.refl _ _ | refine Below.allocs ?_ _ | refine Below.drews ?_ | refine Below.chain ?_ (by assumption)))))
              (first
                | (go_at_call 24; (refine (HBD.out _ (by repeat (first | assumption | exact Below.refl _ _ | refine Below.allocs ?_ _ | refine Below.drews ?_ | refine Below.chain ?_ (by assumption)))).mono ?_); rintro e y6 ⟨⟨v, rfl, hva⟩, hb6⟩; obtain ⟨d6, A6, c6, rfl, ha6, hv6⟩ := hva.a; unfold dyV at *)
                | (go_at_call 23; (with_reducible refine (HCC.out _ _ (by repeat (first | assumption | exact Below.refl _ _ | refine Below.allocs ?_ _ | refine Below.drews ?_ | refine Below.chain ?_ (by assumption))) (hva.below (by repeat (first | assumption | exact Below.refl _ _ | refine Below.allocs ?_ _ | refine Below.drews ?_ | refine Below.chain ?_ (by assumption))))).mono ?_); rintro e y7 ⟨rfl, hb7⟩; have hbE : Below E.heap.size E y7 := (Below.chain (by repeat (first | assumption | exact Below.refl _ _ | refine Below.allocs ?_ _ | refine Below.drews ?_ | refine Below.chain ?_ (by assumption))) hb7)))
            all_goals
              have HBE := Lib.hid (Below.chain HBJ.out (KE.out.call hbE).below)
              go_wp2
              go_roundw
              case rel => exact ⟨j + 1, by omega, by omega, by go_num, HBE.out⟩
              case measure => simp [intOf]; omega
        · obtain rfl : j = n + 1 := by omega
          have HBJ := Lib.hid hbel
          clear hbel
          go_wp2
          go_roundw
          case rel => exact ⟨i + 1, by omega, by go_num, HBJ.out⟩
          case measure => simp [intOf]; omega
    · go_wp2
      go_ret2
      exact ⟨rfl, Below.chain HB1.out HBI.out⟩
end Go.Proofs.Ytdpmpfbbfknlmaa
