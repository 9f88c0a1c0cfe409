/- The walk of FadeMay. -/
import Derived.Test.YtlkgkgnkmjbnjaaOa
import Derived.Deep.QuietTactic
import Derived.BigQuiet
namespace Go.Proofs.Ytlkgkgnkmjbnjaa
open Go.RowKit Go.Shelf Lev

attribute [local go_sem] order_lt order_gt order_eq order_ne

theorem flt_rg_le {x y : Nat} (h : rg y ≤ rg x) : flt (rg x) (rg y) = false := by
  unfold flt
  rw [decide_eq_false_iff_not, ord_rg, ord_rg]
  omega

set_option maxRecDepth 100000 in
set_option maxHeartbeats 1000000 in
theorem fadeMay (f : Fct) (A : Option Addr) (c : Nat) (b : Nat) (w : World) (hx : SlArg w A f.xs c) :
    Calls Try.prog 5 #[facV f.C A f.xs.length c f.R f.T, .float .f64 b] w fun e w' => e = .returned (.bool true) ∧ Below w.heap.size w w' := by
  have hl63 : f.xs.length ≤ 9223372036854775807 := Nat.le_trans hx.cap hx.room
  have HX := Lib.hid hx; clear hx
  unfold facV
  go_enter Try.func5, Try.ntmps5
  by_cases h60 : (60 : Int) < (f.xs.length : Int)
  · go_wp2_with fail
    refine (live12 _).mono ?_
    rintro e w' ⟨rfl, hb⟩
    have hB := Lib.hid (((Below.refl w.heap.size w).alloc (Nat.le_refl _) _).trans (hb.mono (by simp)))
    go_wp2
    go_ret
    exact ⟨rfl, hB.out⟩
  · go_wp2_with fail
    obtain ⟨W, hW⟩ : ∃ W, W = w.alloc (.cells #[.int .i64 f.C, .slice A f.xs.length c, .int .i64 f.R, .int .i64 f.T] 24) := ⟨_, rfl⟩
    rw [← hW]
    have b0 : Bk W w.heap.size 24 #[.int .i64 f.C, .slice A f.xs.length c, .int .i64 f.R, .int .i64 f.T] := by rw [hW]; exact Bk.new _ _ _
    have hbW : Below w.heap.size w W := by rw [hW]; exact (Below.refl _ _).alloc (Nat.le_refl _) _
    have hxW := HX.out.below hbW
    clear hW
    have hfa := factor_any f A c b W hxW
    refine hfa.mono ?_
    clear hfa
    rintro e w2 ⟨⟨v, rfl, A2, c2, rfl, hs2, _⟩, hb2⟩
    unfold facV
    have c2' := b0.below hb2 b0.lt
    have hlt2 := c2'.lt
    have k0 := c2'.cell 0; have k1 := c2'.cell 1; have k2 := c2'.cell 2; have k3 := c2'.cell 3
    simp at k0 k1 k2 k3
    have HC2 := Lib.hid c2'; have HB2 := Lib.hid (hbW.trans (hb2.mono hbW.size)); have HX2 := Lib.hid (hxW.below hb2); have HS2 := Lib.hid hs2
    clear c2' hb2 hs2 b0 hbW hxW
    by_cases hE : oftenE f b 1 = 0
    · have hok := oftenE_ok.1 hE
      obtain ⟨hc, _, hm, hT⟩ := hok
      have hc : checkS f.C f.xs f.R f.T = true := hc
      have hF : oftenF f b 1 = ⟨f.C, fadeL b f.xs, f.R, f.T + 1⟩ := by unfold oftenF; rw [if_pos hE]; rfl
      rw [hF] at HS2
      rw [hE, hF]
      have hln : (fadeL b f.xs).length = f.xs.length := fadeL_length b f.xs
      rw [hln]
      have hT0 : 0 ≤ f.T := (check_len hc).2.2.2.2.2.1
      go_wp2_with fail
      obtain ⟨V, hV⟩ : ∃ V, V = w2.alloc (.cells #[.int .i64 f.C, .slice A2 f.xs.length c2, .int .i64 f.R, .int .i64 (f.T + 1)] 24) := ⟨_, rfl⟩
      rw [← hV]
      obtain ⟨G, hG⟩ : ∃ G, G = w2.heap.size := ⟨_, rfl⟩
      rw [← hG]
      have bg : Bk V G 24 #[.int .i64 f.C, .slice A2 f.xs.length c2, .int .i64 f.R, .int .i64 (f.T + 1)] := by rw [hV, hG]; exact Bk.new _ _ _
      have bf : Bk V w.heap.size 24 #[.int .i64 f.C, .slice A f.xs.length c, .int .i64 f.R, .int .i64 f.T] := by rw [hV]; exact HC2.out.alloc _
      have hbV : Below w.heap.size w V := by rw [hV]; exact HB2.out.alloc HB2.out.size _
      have hxV : SlArg V A f.xs c := by rw [hV]; exact HX2.out.below ((Below.refl _ _).alloc (Nat.le_refl _) _)
      have hsV : SlArg V A2 (fadeL b f.xs) c2 := by rw [hV]; exact HS2.out.below ((Below.refl _ _).alloc (Nat.le_refl _) _)
      clear hV hG k0 k1 k2 k3
      have hck := check_any f.C A f.xs c f.R f.T V hxV
      rw [hc] at hck
      refine hck.mono ?_
      clear hck
      rintro e w3 ⟨rfl, hb3⟩
      have bg3 := bg.below hb3 bg.lt; have bf3 := bf.below hb3 bf.lt
      have hx3 := hxV.below hb3; have hs3 := hsV.below hb3; have hbw3 := hbV.trans (hb3.mono hbV.size)
      have kg0 := bg3.cell 0; have kg1 := bg3.cell 1; have kg2 := bg3.cell 2; have kg3 := bg3.cell 3
      have kf0 := bf3.cell 0; have kf1 := bf3.cell 1; have kf2 := bf3.cell 2; have kf3 := bf3.cell 3
      simp at kg0 kg1 kg2 kg3 kf0 kf1 kf2 kf3
      have HG3 := Lib.hid bg3; have HF3 := Lib.hid bf3; have HX3 := Lib.hid hx3; have HS3 := Lib.hid hs3; have HB3 := Lib.hid hbw3
      clear bg3 bf3 hx3 hs3 hbw3 hb3 hxV hsV bg bf hbV
      go_wp2_with fail
      have hck := check_any f.C A2 (fadeL b f.xs) c2 f.R (f.T + 1) w3 HS3.out
      rw [show checkS f.C (fadeL b f.xs) f.R (f.T + 1) = true from fade_check hc hm (by omega) (by omega), hln] at hck
      refine hck.mono ?_
      clear hck kg0 kg1 kg2 kg3 kf0 kf1 kf2 kf3
      rintro e w4 ⟨rfl, hb4⟩
      have bg4 := HG3.out.below hb4 HG3.out.lt; have bf4 := HF3.out.below hb4 HF3.out.lt
      have hx4 := HX3.out.below hb4; have hs4 := HS3.out.below hb4; have hbw4 := HB3.out.trans (hb4.mono HB3.out.size)
      have kg0 := bg4.cell 0; have kg1 := bg4.cell 1; have kg2 := bg4.cell 2; have kg3 := bg4.cell 3
      have kf0 := bf4.cell 0; have kf1 := bf4.cell 1; have kf2 := bf4.cell 2; have kf3 := bf4.cell 3
      simp at kg0 kg1 kg2 kg3 kf0 kf1 kf2 kf3
      have HX4 := Lib.hid hx4; have HS4 := Lib.hid hs4; have HB4 := Lib.hid hbw4
      clear bg4 bf4 hx4 hs4 hbw4 hb4
      have HM := Lib.hid (may_any b); rw [hm] at HM
      go_wp2_with (go_at_call 17; refine (HM.out _).mono ?_; rintro e w' ⟨rfl, rfl⟩)
      have hpos : 0 < f.xs.length := by
        have := (check_len hc).2.2.1
        have h1 := (check_len hc).1
        have := st_all (f.C + 1).toNat
        have h3 : 2 ≤ (f.C + 1).toNat := by omega
        have := Nat.mul_le_mul h3 h3
        omega
      obtain ⟨bx, ox, hA, hbx, hcx⟩ := HX4.out.reads.2 hpos
      obtain ⟨bs, os, hA2, hbs, hcs⟩ := HS4.out.reads.2 (by rw [hln]; exact hpos)
      rw [hln] at hcs
      subst hA2 hA
      have HCX := Lib.hid hcx; have HCS := Lib.hid hcs; have HLN := Lib.hid hln; have HHC := Lib.hid hc; have HHM := Lib.hid hm
      clear hcx hcs hln hc hE hF
      go_loopw [7] (fun i wr => ∃ j n : Nat, i = .int .i64 (j : Int) ∧ j ≤ f.xs.length ∧ wr = w4.drewN n) (fun i _ => f.xs.length - (intOf i).toNat)
      case atStart => exact ⟨0, 0, rfl, Nat.zero_le _, rfl⟩
      case round =>
        obtain ⟨j, n, rfl, hj, rfl⟩ := hrel
        by_cases hlt : (j : Int) < (f.xs.length : Int)
        · have hcj := HCX.out j (by omega)
          have hcj2 := HCS.out j (by omega)
          rw [fadeL_get (by omega)] at hcj2
          have hsm := check_small HHC.out (j := j) (by omega)
          obtain ⟨e1, e2, e3⟩ := fmul_facts (small_fin hsm) HHM.out
          have hv : f.xs[j]?.getD 0 < 18446744073709551616 := by
            rw [List.getElem?_eq_getElem (by omega)]; exact HX4.out.reads.1 _ (List.getElem_mem _)
          have g1 := flt_rg_le e2
          have g2 : (sg (fmul (f.xs[j]?.getD 0) b) != sg (f.xs[j]?.getD 0)) = false := by rw [e1]; simp
          have HV := Lib.hid hv; have HV2 := Lib.hid e3
          clear hsm g2 e2 e3 hv
          generalize fmul (f.xs[j]?.getD 0) b = y at *
          generalize f.xs[j]?.getD 0 = x at *
          go_wp2
          obtain ⟨V, hV⟩ : ∃ V, V = w4.drewN n := ⟨_, rfl⟩
          have m1 : V.cell? ⟨w.heap.size, 1, none⟩ = some (.slice (some ⟨bx, ox, none⟩) f.xs.length c) := by rw [hV, World.cell?_drewN]; exact kf1
          have m2 : V.cell? ⟨G, 1, none⟩ = some (.slice (some ⟨bs, os, none⟩) f.xs.length c2) := by rw [hV, World.cell?_drewN]; exact kg1
          have m3 : V.cell? ⟨bx, ox + j, none⟩ = some (.float .f64 x) := by rw [hV, World.cell?_drewN]; exact hcj
          have m4 : V.cell? ⟨bs, os + j, none⟩ = some (.float .f64 y) := by rw [hV, World.cell?_drewN]; exact hcj2
          rw [← hV]
          have KV := Lib.hid hV; clear hV
          go_quiet (first | (go_at_call 23; exact q_of (abs_any _ HV.out _)) | (go_at_call 23; exact q_of (abs_any _ HV2.out _)) | (go_at_call 24; exact q_of (signbit_any _ HV.out _)) | (go_at_call 24; exact q_of (signbit_any _ HV2.out _)))
          go_wp2
          go_roundw
          case rel => exact ⟨j + 1, n + nq, by go_num, by omega, by rw [KV.out, World.drewN_drewN]⟩
          case measure => simp [intOf]; omega
        · go_wp2_with fail
          refine (live12 _).mono ?_
          rintro e w' ⟨rfl, hb⟩
          have hB := Lib.hid ((HB4.out.drewN n).trans (hb.mono HB4.out.size))
          go_wp2
          go_ret
          exact ⟨rfl, hB.out⟩
    · have hne : (oftenE f b 1 != 0) = true := by rw [bne_iff_ne]; exact hE
      have hF : oftenF f b 1 = Fct.zero := if_neg hE
      rw [hF] at HS2
      rw [hF]
      clear hE hF
      generalize oftenE f b 1 = E at *
      unfold Fct.zero
      go_wp2_with fail
      have hsame := fac_same Fct.zero A2 none c2 0 (w2.alloc (.cells #[.int .i64 0, .slice A2 0 c2, .int .i64 0, .int .i64 0] 24)) (HS2.out.below ((Below.refl _ _).alloc (Nat.le_refl _) _)) ⟨FlR.nil _ _ _, Nat.le_refl _, by decide⟩
      refine hsame.mono ?_
      clear hsame
      rintro e w3 ⟨rfl, hb3⟩
      have HB3 := Lib.hid ((HB2.out.alloc HB2.out.size (.cells #[.int .i64 0, .slice A2 0 c2, .int .i64 0, .int .i64 0] 24)).trans (hb3.mono (by have := HB2.out.size; simp; omega)))
      clear hb3
      go_wp2_with fail
      refine (live12 _).mono ?_
      rintro e w' ⟨rfl, hb⟩
      have hB := Lib.hid (HB3.out.trans (hb.mono HB3.out.size))
      go_wp2
      go_ret
      exact ⟨rfl, hB.out⟩
end Go.Proofs.Ytlkgkgnkmjbnjaa
