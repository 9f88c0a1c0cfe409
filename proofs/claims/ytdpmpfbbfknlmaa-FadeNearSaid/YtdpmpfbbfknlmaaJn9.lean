/- The walk of FadeNear. -/
import Derived.Test.YtdpmpfbbfknlmaaDk9
import Derived.Test.YtdpmpfbbfknlmaaJ9
import Derived.Test.YtdpmpfbbfknlmaaJl9
import Derived.Test.YtdpmpfbbfknlmaaJm9
import Derived.Test.YtdpmpfbbfknlmaaZ9
set_option linter.unusedVariables false
namespace Go.Proofs.Ytdpmpfbbfknlmaa
open Go.RowKit Go.Shelf Lev

set_option maxRecDepth 100000 in
set_option maxHeartbeats 4000000 in
theorem fadeNear (f : Fct) (A : Option Addr) (c : Nat) (b : Nat) (w : World) (hx : SlArg w A f.xs c) (hb : b < 18446744073709551616) :
    Calls Try.prog 3 #[facV f.C A f.xs.length c f.R f.T, .float .f64 b] w fun e w' => e = .returned (.bool true) ∧ Below w.heap.size w w' := by
  have HLV := Lib.hid (fun W => live12 W)
  have k0 := ((KeepD.start w).more hx).pusho #[.int .i64 f.C, .slice A f.xs.length c, .int .i64 f.R, .int .i64 f.T] 24 (by decide)
  have K0 := Lib.hid k0
  have hl63 : f.xs.length ≤ 9223372036854775807 := Nat.le_trans hx.cap hx.room
  have hfa := fun W h => factor_any f A c b W h
  by_cases h60 : (60 : Int) < (f.xs.length : Int)
  · unfold facV
    clear hx k0 hfa
    go_enter Try.func3, Try.ntmps3
    go_wp2_with fail
    refine (HLV.out _).mono ?_
    rintro e w1 ⟨rfl, hb⟩
    have HB := Lib.hid (K0.out.call hb).below
    clear hb
    go_wp2
    go_ret
    exact ⟨rfl, HB.out⟩
  · by_cases hE : oftenE f b 1 = 0
    · obtain ⟨hok, _, hm, hT⟩ := oftenE_ok.1 hE
      have hF : oftenF f b 1 = ⟨f.C, fadeL b f.xs, f.R, f.T + 1⟩ := by unfold oftenF; rw [if_pos hE]; rfl
      have hcc : checkS f.C f.xs f.R f.T = true := hok
      have hT0 : 0 ≤ f.T := (check_len hcc).2.2.2.2.2.1
      have hg : (⟨f.C, fadeL b f.xs, f.R, f.T + 1⟩ : Fct).ok = true := fade_check hcc hm (show (0 : Int) ≤ f.T + 1 by omega) (show f.T + 1 ≤ 4096 by omega)
      have hln : (fadeL b f.xs).length = f.xs.length := fadeL_length b f.xs
      have hc := ok_len hok
      obtain ⟨n, hn⟩ : ∃ n : Nat, f.C = (n : Int) := ⟨f.C.toNat, by omega⟩
      have hn6 : 1 ≤ n ∧ n ≤ 6 := by omega
      have hfin := (may_facts hm).1
      have hS := st_whole hn6
      have hpl := fun i j h1 h2 => st_place (n := n) (i := i) (j := j) h1 h2
      have hR1 := fun j => fade_R (f := f) hok hfin n j hn6.2
      have hR0 := fun j => gramS_R9 (f := f) hok n j hn6.2
      have hR2 := fun j => gramS_R9 hg n j hn6.2
      have hPO := fun i h => fade_pos (f := f) (b := b) (n := n) (i := i) h
      have hNE := fun i j h1 h2 U V h3 h4 => fade_near (f := f) hok hm f.R (f.T + 1) hg (n := n) (i := i) (j := j) hn6.2 h1 h2 (U := U) (V := V) h3 h4
      have hf1 := fun W h => factor08_any f A c W h hok n hn
      have hf2 := fun A2 c2 W h => factor08_any ⟨f.C, fadeL b f.xs, f.R, f.T + 1⟩ A2 c2 W h hg n hn
      have hS2 : (sizeI (n : Int)).toNat = st (n + 1) (n + 1) := by rw [hS, Int.toNat_natCast]
      rw [hS2] at hf1 hf2
      rw [hE, hF] at hfa
      have hS28 : st (n + 1) (n + 1) ≤ 49 := by
        have h1 := st_all (n + 1)
        have h2 := Nat.mul_le_mul (show n + 1 ≤ 7 by omega) (show n + 1 ≤ 7 by omega)
        omega
      have hS0 : st (n + 1) (n + 1) ≠ 0 := by have := hpl 0 0 (Nat.le_refl _) (Nat.zero_le _); omega
      dsimp only at hf2
      unfold FacB at hfa
      dsimp only at hfa
      unfold facV at hfa hf1 hf2 ⊢
      rw [hln] at hfa hf2
      rw [hn] at hfa hf1 hf2 K0 ⊢
      generalize st (n + 1) (n + 1) = S at *
      have HFA := Lib.hid hfa; have HF1 := Lib.hid hf1; have HF2 := Lib.hid hf2; have HS := Lib.hid hS; have HPL := Lib.hid hpl; have HR1 := Lib.hid hR1; have HR0 := Lib.hid hR0; have HR2 := Lib.hid hR2; have HPO := Lib.hid hPO; have HNE := Lib.hid hNE
      have HFD := Lib.hid (fun (l : List DyE) B cB W hd hl hq => fade08_any l B cB b W hd hl hb hfin hq)
      have HS0 := Lib.hid hS0; have HS28 := Lib.hid hS28; have HN6 := Lib.hid hn6
      clear hx k0 hfa hE hok hm hT hF hcc hT0 hg hc hfin hS hpl hR1 hR0 hR2 hPO hNE hf1 hf2 hS2 hS28 hS0 hn6 hln
      go_enter Try.func3, Try.ntmps3
      go_wp2_with fail
      refine (HFA.out _ (K0.out.arg (.head _))).mono ?_
      rintro e w1 ⟨⟨v, rfl, A2, c2, rfl, hs2, _⟩, hb1⟩
      have K1 := Lib.hid (((K0.out.call hb1).more hs2).pusho #[.int .i64 (n : Int), .slice A2 f.xs.length c2, .int .i64 f.R, .int .i64 (f.T + 1)] 24 (by decide))
      obtain ⟨r0, r1, r2, r3⟩ := (K1.out.other (.tail _ (.head _))).c4
      clear hb1 hs2
      go_wp2_with fail
      refine (HF1.out _ (K1.out.arg (.tail _ (.head _)))).mono ?_
      rintro e w2 ⟨⟨B1, o1, d1, rfl, hd1, ho1, hv1⟩, hb2⟩
      have K2 := Lib.hid (K1.out.call hb2)
      have HD1 := Lib.hid hd1; have HO1 := Lib.hid ho1; have HV1 := Lib.hid hv1
      have hfd := HFD.out o1 B1 d1 w2 hd1 (by have := HS28.out; omega) (fun j hj => by rw [hv1 j hj]; exact R_mono (HR0.out j) (by omega) (by omega))
      rw [ho1] at hfd
      have HFE := Lib.hid hfd
      clear hb2 r0 r1 r2 r3 hd1 ho1 hv1 hfd
      go_wp2_with fail
      refine HFE.out.mono ?_
      rintro e w3 ⟨⟨B2, o2, d2, rfl, hd2, ho2, hv2⟩, hb3⟩
      have K3 := Lib.hid (K2.out.call hb3)
      have HD2 := Lib.hid hd2; have HO2 := Lib.hid ho2; have HV2 := Lib.hid hv2
      obtain ⟨r0, r1, r2, r3⟩ := (K3.out.other (.head _)).c4
      clear hb3 hd2 ho2 hv2
      go_wp2_with fail
      refine (HF2.out _ _ _ (K3.out.arg (.head _))).mono ?_
      rintro e w4 ⟨⟨B3, o3, d3, rfl, hd3, ho3, hv3⟩, hb4⟩
      have K4 := Lib.hid (K3.out.call hb4)
      have hD24 := HD2.out.below hb4
      have hl2 : ∀ j, j < S → lv o2 j = gramS f n j * fv b * fv b := fun j hj => by
        have h1 : j < o2.length := by have := HO2.out; omega
        rw [lv_get h1, HV2.out j h1, HV1.out j (by have := HO1.out; omega)]
      have hl3 : ∀ j, j < S → lv o3 j = gramS ⟨f.C, fadeL b f.xs, f.R, f.T + 1⟩ n j := fun j hj => by rw [hn]; exact hv3 j (by omega)
      have hp0 : ∀ i, i ≤ n → st (n + 1) i < S := fun i hi => by have := HPL.out i i (Nat.le_refl _) hi; omega
      have hck := check09_any n HN6.out o2 o3 B2 B3 d2 d3 w4 hD24 hd3 S HS.out HS0.out HO2.out ho3 HPL.out
        (fun i hi => by rw [hl2 _ (hp0 i hi)]; exact ⟨HPO.out i hi, R_mono (HR1.out _) (by omega) (by omega)⟩)
        (fun i j h1 h2 => by rw [hl2 _ (HPL.out i j h1 h2), hl3 _ (HPL.out i j h1 h2)]; exact R_mono (R_sub (R_mono (HR2.out _) (c := 4296) (d := 4110) (by omega) (by omega)) (HR1.out _)) (by omega) (by omega))
        (fun i j h1 h2 U V h3 h4 h5 h6 => by
          rw [hl2 _ (hp0 i (by omega))] at h5
          rw [hl2 _ (hp0 j h2)] at h6
          rw [hl2 _ (HPL.out i j h1 h2), hl3 _ (HPL.out i j h1 h2)]
          exact HNE.out i j h1 h2 U V h3 h4 h5 h6)
      have HCK := Lib.hid hck
      obtain ⟨s0, s1, s2, s3⟩ := (K4.out.other (.tail _ (.head _))).c4
      clear hb4 hd3 ho3 hv3 hD24 hl2 hl3 hp0 hck r0 r1 r2 r3
      go_wp2_with fail
      refine HCK.out.mono ?_
      rintro e w5 ⟨rfl, hb5⟩
      have K5 := Lib.hid (K4.out.call hb5)
      clear hb5 s0 s1 s2 s3
      go_wp2_with fail
      refine (HLV.out _).mono ?_
      rintro e w6 ⟨rfl, hb6⟩
      have HB := Lib.hid (K5.out.call hb6).below
      clear hb6
      go_wp2
      go_ret
      exact ⟨rfl, HB.out⟩
    · have t0 : (oftenE f b 1 != 0) = true := by rw [bne_iff_ne]; exact hE
      have HFA := Lib.hid hfa
      unfold FacB facV at HFA
      unfold facV
      clear hx k0 hfa hE
      generalize oftenE f b 1 = E at *
      generalize oftenF f b 1 = F at *
      go_enter Try.func3, Try.ntmps3
      go_wp2_with fail
      refine (HFA.out _ (K0.out.arg (.head _))).mono ?_
      rintro e w1 ⟨⟨v, rfl, A2, c2, rfl, hs2, _⟩, hb1⟩
      have K1 := Lib.hid (((K0.out.call hb1).more hs2).pusho #[.int .i64 F.C, .slice A2 F.xs.length c2, .int .i64 F.R, .int .i64 F.T] 24 (by decide))
      clear hb1 hs2
      go_wp2_with fail
      refine (HLV.out _).mono ?_
      rintro e w6 ⟨rfl, hb6⟩
      have HB := Lib.hid (K1.out.call hb6).below
      clear hb6
      go_wp2
      go_ret
      exact ⟨rfl, HB.out⟩
end Go.Proofs.Ytdpmpfbbfknlmaa
