/- The document's answer for fading once. -/
import Derived.Test.YtlkgkgnkmjbnjaaCe
import Derived.Test.YtlkgkgnkmjbnjaaDf
import Derived.Deep.RegionLaw
import Derived.Deep.AppendLies
import Derived.OneCell
namespace Go.Proofs.Ytlkgkgnkmjbnjaa
open Go.RowKit Go.Shelf Lev

set_option maxRecDepth 100000 in
set_option maxHeartbeats 1000000 in
theorem rfac_full (f : Fct) (A : Option Addr) (c : Nat) (b : Nat) (w : World) (hx : SlArg w A f.xs c) (h : oftenE f b 1 = 0) :
    Calls Try.prog 14 #[facV f.C A f.xs.length c f.R f.T, .float .f64 b] w fun e w' => (∃ v, e = .returned (.tuple #[v, .int .i64 0]) ∧ FacB w.heap.size A w' v (oftenF f b 1)) ∧ Below w.heap.size w w' := by
  obtain ⟨h1, _, h2, h3⟩ := oftenE_ok.1 h
  have d1 : decide (f.T ≥ 4096) = false := decide_eq_false (by omega)
  have d1' : decide (4096 ≤ f.T) = false := decide_eq_false (by omega)
  have hok : checkS f.C f.xs f.R f.T = true := h1
  unfold facV
  have H := Lib.hid h; clear h h3
  go_enter Try.func14, Try.ntmps14
  go_wp2_with fail
  obtain ⟨W, hW⟩ : ∃ W, W = (w.alloc (.cells #[.int .i64 f.C, .slice A f.xs.length c, .int .i64 f.R, .int .i64 f.T] 24)).alloc (.cells #[.int .i64 0, .slice none 0 0, .int .i64 0, .int .i64 0] 24) := ⟨_, rfl⟩
  rw [← hW]
  have b0 : Bk W w.heap.size 24 #[.int .i64 f.C, .slice A f.xs.length c, .int .i64 f.R, .int .i64 f.T] := by rw [hW]; exact (Bk.new _ _ _).alloc _
  have b1 : Bk W (w.heap.size + 1) 24 #[.int .i64 0, .slice none 0 0, .int .i64 0, .int .i64 0] := by rw [hW]; have := Bk.new (w.alloc (.cells #[.int .i64 f.C, .slice A f.xs.length c, .int .i64 f.R, .int .i64 f.T] 24)) 24 #[.int .i64 0, .slice none 0 0, .int .i64 0, .int .i64 0]; simpa using this
  have hbW : Below w.heap.size w W := by rw [hW]; exact ((Below.refl _ _).alloc (Nat.le_refl _) _).alloc (by simp) _
  have hszW : W.heap.size = w.heap.size + 2 := by rw [hW]; simp
  have hxW := hx.below hbW
  clear hW
  have hck := rcheck_any f.C A f.xs c f.R f.T W hxW
  rw [hok] at hck
  refine hck.mono ?_
  rintro e w1 ⟨rfl, hb1⟩
  have c0 := b0.below hb1 (by omega)
  have c1 := b1.below hb1 (by omega)
  have hx1 := hxW.below hb1
  have hbw1 : Below w.heap.size w w1 := hbW.trans (hb1.mono (by omega))
  have hsz1 := hb1.size
  have HM1 := Lib.hid (rmay_any b); rw [h2] at HM1
  have k0 := c0.cell 0; have k1 := c0.cell 1; have k2 := c0.cell 2; have k3 := c0.cell 3
  have KX := Lib.hid hx1; have KB := Lib.hid hbw1; have KS := Lib.hid hsz1; have KW := Lib.hid hszW; have H1 := Lib.hid h1; have H2 := Lib.hid h2; have HX := Lib.hid hx
  have C0 := Lib.hid c0; have C1 := Lib.hid c1
  clear hxW hb1 hbW hx1 hbw1 b0 b1 c0 c1 hsz1 hszW hck hok h1 h2 hx
  simp at k0 k1 k2 k3
  go_wp2_with (go_at_call 18; refine (HM1.out _).mono ?_; rintro e w' ⟨rfl, rfl⟩)
  obtain ⟨i0, hi, hz0, hz1, hz2⟩ := info_parts info_f64
  obtain ⟨G, hG⟩ : ∃ G, G = w1.heap.size := ⟨_, rfl⟩
  have hGb : w.heap.size + 2 ≤ G := by have := KS.out; have := KW.out; omega
  have g0 : Bk (w1.alloc (.cells #[.int .i64 f.C, .slice none 0 0, .int .i64 f.R, .int .i64 f.T] 24)) G 24 #[.int .i64 f.C, .slice none 0 0, .int .i64 f.R, .int .i64 f.T] := by rw [hG]; exact Bk.new _ _ _
  have hbG : Below w.heap.size w (w1.alloc (.cells #[.int .i64 f.C, .slice none 0 0, .int .i64 f.R, .int .i64 f.T] 24)) := KB.out.alloc (by rw [← hG]; omega) _
  have e0 := C0.out.alloc (.cells #[.int .i64 f.C, .slice none 0 0, .int .i64 f.R, .int .i64 f.T] 24)
  have e1 := C1.out.alloc (.cells #[.int .i64 f.C, .slice none 0 0, .int .i64 f.R, .int .i64 f.T] 24)
  have hsG : G + 1 ≤ (w1.alloc (.cells #[.int .i64 f.C, .slice none 0 0, .int .i64 f.R, .int .i64 f.T] 24)).heap.size := by rw [hG]; simp
  rw [← hG]
  have KG := Lib.hid hG; clear hG
  have hlen : f.xs.length ≤ 28 := (check_len H1.out).2.2.2.2.2.2.2.1
  go_loopw [7] (fun i wr => ∃ (j : Nat) (v : Value), j ≤ f.xs.length ∧ i = .int .i64 (j : Int) ∧ Bk wr w.heap.size 24 #[.int .i64 f.C, .slice A f.xs.length c, .int .i64 f.R, .int .i64 f.T] ∧
      Bk wr (w.heap.size + 1) 24 #[.int .i64 0, .slice none 0 0, .int .i64 0, .int .i64 0] ∧ Bk wr G 24 #[.int .i64 f.C, v, .int .i64 f.R, .int .i64 f.T] ∧
      wr.ownsRow (G + 1) 25 1 v j ((fadeL b (f.xs.take j)).map (Value.float .f64)) ∧ Below w.heap.size w wr ∧ G + 1 ≤ wr.heap.size) (fun i _ => f.xs.length - (intOf i).toNat)
  case atStart => exact ⟨0, .slice none 0 0, Nat.zero_le _, rfl, e0, e1, g0, World.ownsRow_nil _ _ _ _, hbG, hsG⟩
  case round =>
    obtain ⟨j, v, hj, rfl, d0, d1, dG, hown, hbj, hszj⟩ := hrel
    clear e0 e1 g0 hbG hsG k0 k1 k2 k3
    have k1 := d0.cell 1
    have kG := dG.cell 1
    have fG := dG.frozen 1
    simp at k1 kG
    by_cases hlt : (j : Int) < (f.xs.length : Int)
    · have hxr := (HX.out.reads.below hbj)
      obtain ⟨bl, off, hA, hbl, hc⟩ := hxr.2 (by omega)
      subst hA
      have hcell := hc j (by omega)
      have hfk : fin (f.xs[j]?.getD 0) := small_fin (check_small H1.out (by omega))
      have hfad : fadeL b (f.xs.take (j + 1)) = fadeL b (f.xs.take j) ++ [fmul (f.xs[j]?.getD 0) b] := by
        unfold fadeL
        rw [List.take_succ_eq_append_getElem (by omega), List.map_append, List.getElem?_eq_getElem (by omega)]; rfl
      obtain ⟨r, hr1, hr2, _⟩ := fmul_spec hfk H2.out
      have hm : floatBits .mul .f64 (f.xs[j]?.getD 0) b = some (fmul (f.xs[j]?.getD 0) b) := by rw [hr2]; exact hr1
      have hrun := fun (w : World) => run_float_arith (P := Try.prog) w .mul 25 .f64 _ _ _ hm
      have KF := Lib.hid hfad
      clear hm hr1 hr2 hfad hxr hc hfk
      generalize f.xs[j]?.getD 0 = x at *
      have D0 := Lib.hid d0; have D1 := Lib.hid d1; have DG := Lib.hid dG; have HO := Lib.hid hown; have HB := Lib.hid hbj; have HSZ := Lib.hid hszj; have HGB := Lib.hid hGb
      clear d0 d1 dG hown hbj hszj hGb
      go_wp2_with fail
      have hne0 : some w.heap.size ≠ v.ownBlock := fun h => by have := (HO.out.lt _ h.symm).1; have := HGB.out; omega
      have hneb : some bl ≠ v.ownBlock := fun h => by have := (HO.out.lt _ h.symm).1; have := HGB.out; omega
      have hs0 : w.heap.size < wr.heap.size := by have := HSZ.out; have := HGB.out; omega
      have hs1 : bl < wr.heap.size := by omega
      have hs2 : G < wr.heap.size := by have := HSZ.out; omega
      have hne1 : some (w.heap.size + 1) ≠ v.ownBlock := fun h => by have := (HO.out.lt _ h.symm).1; have := HGB.out; omega
      have hG2 : w.heap.size + 1 ≠ G := by have := HGB.out; omega
      have hnG : some G ≠ v.ownBlock := fun h => by have := (HO.out.lt _ h.symm).1; omega
      have hG0 : w.heap.size ≠ G := by have := HGB.out; omega
      have hG1 : bl ≠ G := by have := HGB.out; omega
      go_region_law
        (first | ((refine step_append_lies _ (by rfl) _ _ 22 (by rfl) (G + 1) 25 i0 (.float .f64 0) 1 8 Try.underlying22 hi hz0 hz1 hz2 (by rfl) (by decide) v j _ (by rfl) (HO.out.alloc _).drew ⟨wr.heap.size, 0, none⟩ 1 1 [.float .f64 (fmul x b)] (by rfl) (by rfl) (cell_one_new _ _ _) (by simp [Value.oneCell']) (by decide) (by unfold maxLen; omega) (by omega) (show G + 1 ≤ (wr.alloc _).heap.size by rw [World.size_alloc]; exact Nat.le_succ_of_le HSZ.out) _ rfl ?_; intro g cap w3 hown' hgrow hat hlt3; have kG3 : w3.cell? ⟨G, 1, none⟩ = some v := (hgrow.cell_far _ (show G < (wr.alloc _).heap.size by rw [World.size_alloc]; omega) hnG).trans ((World.cell?_alloc_lt _ _ _ hs2).trans kG); have fG3 : w3.frozen? ⟨G, 1, none⟩ = false := (hgrow.frozen_far _ (show G < (wr.alloc _).heap.size by rw [World.size_alloc]; omega) hnG).trans ((World.frozen?_alloc_old _ _ _ (Nat.ne_of_lt hs2)).trans fG))))
      all_goals
        go_wp2
        go_roundw
        case rel =>
          have A1 : ∀ {t : TypeId} {cs : Array Value} {q : Nat}, Bk wr q t cs → some q ≠ v.ownBlock → Bk w3 q t cs := fun {t cs q} h hne => (hgrow.block q (by have := h.lt; simp; omega) hne).trans (h.alloc _)
          refine ⟨j + 1, _, by omega, by go_num, (A1 D0.out hne0).other (p := ⟨G, 1, none⟩) hG0 _, (A1 D1.out hne1).other (p := ⟨G, 1, none⟩) hG2 _, ?_, ownsRow_setCell_below (by rw [KF.out, List.map_append]; exact hown') (a := ⟨G, 1, none⟩) (Nat.lt_succ_self G) _, ?_, ?_⟩
          · have := (A1 DG.out hnG).set 1 (.slice (some ⟨g, 0, none⟩) (j + 1) cap)
            simpa using this
          · exact (Below.grown (HB.out.alloc (by have := HSZ.out; have := HGB.out; omega) _).drew hgrow (by have := HSZ.out; have := HGB.out; simp; omega) (fun k hk => by have := (HO.out.lt k hk).1; have := HGB.out; omega)).setCell (p := ⟨G, 1, none⟩) (by have := HGB.out; show w.heap.size ≤ G; omega) _
          · have h1 := (hown'.lt g rfl).1
            simp [World.setCell]; omega
        case measure => simp [intOf]; omega
    · obtain rfl : j = f.xs.length := by omega
      have hown2 := hown
      rw [List.take_length, ← fadeL_length b f.xs] at hown2
      have hmade := made_of_own hown2 (fun y hy => by
        unfold fadeL at hy
        rw [List.mem_map] at hy
        obtain ⟨x, hx0, rfl⟩ := hy
        exact (fmul_facts (small_fin (check_small' H1.out hx0)) H2.out).2.2)
      obtain ⟨A2, c2, rfl, hs2, ha2⟩ := hmade
      rw [fadeL_length] at dG kG
      have k0 := d0.cell 3; have k4 := d0.cell 1
      have m0 := dG.cell 0; have m1 := dG.cell 1; have m2 := dG.cell 2; have m3 := dG.cell 3
      have f3 := dG.frozen 3
      have r0 := d1.cell 0; have r1 := d1.cell 1; have r2 := d1.cell 2; have r3 := d1.cell 3
      have g0 := d1.frozen 0; have g1 := d1.frozen 1; have g2 := d1.frozen 2; have g3 := d1.frozen 3
      have D0 := Lib.hid d0; have D1 := Lib.hid d1; have DG := Lib.hid dG; have HB := Lib.hid hbj; have HSZ := Lib.hid hszj; have HGB := Lib.hid hGb; have HS2 := Lib.hid hs2; have HA2 := Lib.hid ha2
      have hne1 : w.heap.size + 1 ≠ G := by omega
      have hne0 : w.heap.size ≠ G := by omega
      clear d0 d1 dG hbj hszj hGb hs2 ha2 hown hown2
      have hT0 : 0 ≤ f.T := (check_len H1.out).2.2.2.2.2.1
      have hT1 : f.T ≤ 4096 := (check_len H1.out).2.2.2.2.2.2.1
      simp at k0 k4 m0 m1 m2 m3 r0 r1 r2 r3
      go_wp2
      have x1 : Bk (wr.setCell ⟨G, 3, none⟩ (.int .i64 (f.T + 1))) (w.heap.size + 1) 24 #[.int .i64 0, .slice none 0 0, .int .i64 0, .int .i64 0] := D1.out.other (p := ⟨G, 3, none⟩) hne1 _
      obtain ⟨x5, y5, z5⟩ := fac_box x1 (.int .i64 f.C) (.slice A2 f.xs.length c2) (.int .i64 f.R) (.int .i64 (f.T + 1))
      have hbf := y5 _ _ (HB.out.setCell (p := ⟨G, 3, none⟩) (by have := HGB.out; show w.heap.size ≤ G; omega) _) (by omega)
      have hav : ∀ g, g ≤ G → ∀ a, A2 = some a → a.block ≠ g := fun g hg a ha => by have := HA2.out a ha; omega
      have hxf := z5 _ _ _ (HS2.out.setCell (p := ⟨G, 3, none⟩) (fun _ => hav _ (Nat.le_refl _)) (.int .i64 (f.T + 1))) (fun _ => hav _ (by have := HGB.out; omega))
      unfold stored4 at x5 hbf hxf
      generalize ((((wr.setCell ⟨G, 3, none⟩ (.int .i64 (f.T + 1))).setCell ⟨w.heap.size + 1, 0, none⟩ (.int .i64 f.C)).setCell ⟨w.heap.size + 1, 1, none⟩ (.slice A2 f.xs.length c2)).setCell ⟨w.heap.size + 1, 2, none⟩ (.int .i64 f.R)).setCell ⟨w.heap.size + 1, 3, none⟩ (.int .i64 (f.T + 1)) = wf at *
      have s0 := x5.cell 0; have s1 := x5.cell 1; have s2 := x5.cell 2; have s3 := x5.cell 3
      simp at s0 s1 s2 s3
      have hF : oftenF f b 1 = ⟨f.C, fadeL b f.xs, f.R, f.T + 1⟩ := by unfold oftenF; rw [if_pos H.out]; rfl
      rw [hF]
      refine bodyPost_ret (v := .tuple #[facV f.C A2 f.xs.length c2 f.R (f.T + 1), .int .i64 0]) (by simp [results, Try.results14, go_sem, facV, s0, s1, s2, s3]) rfl ?_
      refine ⟨⟨_, rfl, A2, c2, by rw [fadeL_length], hxf, ?_⟩, hbf⟩
      exact .inr (fun a ha => by have := HA2.out a ha; have := HGB.out; omega)

set_option maxRecDepth 100000 in
set_option maxHeartbeats 1000000 in
/-- The document's answer for fading once. -/
theorem rfac_any (f : Fct) (A : Option Addr) (c : Nat) (b : Nat) (w : World) (hx : SlArg w A f.xs c) :
    Calls Try.prog 14 #[facV f.C A f.xs.length c f.R f.T, .float .f64 b] w fun e w' => (∃ v, e = .returned (.tuple #[v, .int .i64 (oftenE f b 1)]) ∧ FacB w.heap.size A w' v (oftenF f b 1)) ∧ Below w.heap.size w w' := by
  by_cases h : oftenE f b 1 = 0
  · rw [h]; exact rfac_full f A c b w hx h
  · have hF : oftenF f b 1 = Fct.zero := by unfold oftenF; rw [if_neg h]
    rw [hF]
    have HCK := Lib.hid (fun W hW => rcheck_any f.C A f.xs c f.R f.T W hW)
    have HX := Lib.hid hx; clear hx
    have hcases : (checkS f.C f.xs f.R f.T = false ∧ oftenE f b 1 = 1) ∨ (checkS f.C f.xs f.R f.T = true ∧ mayS b = false ∧ oftenE f b 1 = 12) ∨ (checkS f.C f.xs f.R f.T = true ∧ mayS b = true ∧ decide (4096 ≤ f.T) = true ∧ oftenE f b 1 = 6) := by
      have hok : f.ok = checkS f.C f.xs f.R f.T := rfl
      unfold oftenE at h ⊢
      rw [hok] at h ⊢
      cases h1 : checkS f.C f.xs f.R f.T
      · exact .inl ⟨rfl, if_pos (.inl rfl)⟩
      · right
        rw [h1, if_neg (by simp)] at h
        rw [if_neg (by simp)]
        cases h2 : mayS b
        · exact .inl ⟨rfl, rfl, if_pos rfl⟩
        · right
          rw [h2, if_neg (by simp)] at h
          by_cases h3 : 4096 - f.T < 1
          · exact ⟨rfl, rfl, decide_eq_true (by omega), by rw [if_neg (by simp), if_pos h3]⟩
          · rw [if_neg h3] at h; exact absurd rfl h
    have HM := Lib.hid (rmay_any b)
    unfold facV at HCK ⊢
    rcases hcases with ⟨h1, hE⟩ | ⟨h1, h2, hE⟩ | ⟨h1, h2, h3, hE⟩
    all_goals
      rw [hE]
      rw [h1] at HCK
      try rw [h2] at HM
      clear h hE h1
      go_enter Try.func14, Try.ntmps14
      go_wp2_with fail
      obtain ⟨W, hW⟩ : ∃ W, W = (w.alloc (.cells #[.int .i64 f.C, .slice A f.xs.length c, .int .i64 f.R, .int .i64 f.T] 24)).alloc (.cells #[.int .i64 0, .slice none 0 0, .int .i64 0, .int .i64 0] 24) := ⟨_, rfl⟩
      rw [← hW]
      have b0 : Bk W w.heap.size 24 #[.int .i64 f.C, .slice A f.xs.length c, .int .i64 f.R, .int .i64 f.T] := by rw [hW]; exact (Bk.new _ _ _).alloc _
      have b1 : Bk W (w.heap.size + 1) 24 #[.int .i64 0, .slice none 0 0, .int .i64 0, .int .i64 0] := by rw [hW]; have := Bk.new (w.alloc (.cells #[.int .i64 f.C, .slice A f.xs.length c, .int .i64 f.R, .int .i64 f.T] 24)) 24 #[.int .i64 0, .slice none 0 0, .int .i64 0, .int .i64 0]; simpa using this
      have hbW : Below w.heap.size w W := by rw [hW]; exact ((Below.refl _ _).alloc (Nat.le_refl _) _).alloc (by simp) _
      have hszW : W.heap.size = w.heap.size + 2 := by rw [hW]; simp
      clear hW
      refine (HCK.out W (HX.out.below hbW)).mono ?_
      rintro e w1 ⟨rfl, hb1⟩
      have c0 := b0.below hb1 (by omega)
      have c1 := b1.below hb1 (by omega)
      have hbw1 : Below w.heap.size w w1 := hbW.trans (hb1.mono (by omega))
      have k3 := c0.cell 3
      have r0 := c1.cell 0; have r1 := c1.cell 1; have r2 := c1.cell 2; have r3 := c1.cell 3
      have g0 := c1.frozen 0; have g1 := c1.frozen 1; have g2 := c1.frozen 2; have g3 := c1.frozen 3
      have KB := Lib.hid hbw1; have C1 := Lib.hid c1
      clear hb1 hbW hbw1 b0 b1 c0 c1 hszW
      simp at k3 r0 r1 r2 r3
      go_wp2_with (go_at_call 18; refine (HM.out _).mono ?_; rintro e w' ⟨rfl, rfl⟩)
      obtain ⟨x5, y5, z5⟩ := fac_box C1.out (.int .i64 0) (.slice none 0 0) (.int .i64 0) (.int .i64 0)
      have hbf := y5 _ _ KB.out (by omega)
      unfold stored4 at x5 hbf
      generalize (((w1.setCell ⟨w.heap.size + 1, 0, none⟩ (.int .i64 0)).setCell ⟨w.heap.size + 1, 1, none⟩ (.slice none 0 0)).setCell ⟨w.heap.size + 1, 2, none⟩ (.int .i64 0)).setCell ⟨w.heap.size + 1, 3, none⟩ (.int .i64 0) = wf at *
      have s0 := x5.cell 0; have s1 := x5.cell 1; have s2 := x5.cell 2; have s3 := x5.cell 3
      simp at s0 s1 s2 s3
      refine bodyPost_ret (v := .tuple #[zeroFac, .int .i64 _]) (by simp [results, Try.results14, go_sem, zeroFac, s0, s1, s2, s3]; rfl) rfl ?_
      exact ⟨⟨_, rfl, facB_zero _ _ _⟩, hbf⟩

end Go.Proofs.Ytlkgkgnkmjbnjaa
