/- The document's answer for fading by the numbers of a list. -/
import Derived.Test.YtlkgkgnkmjbnjaaDj
import Derived.Deep.DeepCutAuto
namespace Go.Proofs.Ytlkgkgnkmjbnjaa
open Go.RowKit Go.Shelf Lev

set_option maxRecDepth 100000 in
set_option maxHeartbeats 2000000 in
theorem rall_any (f : Fct) (A : Option Addr) (c : Nat) (l : List Nat) (L : Option Addr) (cl : Nat) (w : World) (hx : SlArg w A f.xs c) (hl : SlArg w L l cl) (hll : l.length ≤ 1000) :
    Calls Try.prog 21 #[facV f.C A f.xs.length c f.R f.T, .slice L l.length cl] w fun e w' => (∃ v, e = .returned (.tuple #[v, .int .i64 ((allS f l).2.2 : Int), .int .i64 (allS f l).2.1]) ∧ FacB w.heap.size A w' v (allS f l).1) ∧ Below w.heap.size w w' := by
  have HCK := Lib.hid (fun W hW => rcheck_any f.C A f.xs c f.R f.T W hW)
  have HX := Lib.hid hx; have HL := Lib.hid hl; clear hx hl
  unfold facV at HCK ⊢
  cases hok : checkS f.C f.xs f.R f.T
  · have hS : allS f l = (Fct.zero, 1, 0) := if_pos hok
    rw [hS]
    rw [hok] at HCK
    clear hok hS hll
    go_enter Try.func21, Try.ntmps21
    go_wp2_with fail
    refine named ?_
    intro W hW
    obtain ⟨b0, b1, hbW, hsz⟩ := boxes2 hW
    clear hW
    refine (HCK.out W (HX.out.below hbW)).mono ?_
    rintro e w1 ⟨rfl, hb1⟩
    have hB1 := hbW.trans (hb1.mono (by omega))
    have c1 := b1.below hb1 (by omega)
    obtain ⟨⟨s0, s1, s2, s3⟩, f0, f1, f2, f3⟩ := c1.all4
    clear hb1 hbW b0 b1
    go_wp2
    obtain ⟨x5, y5, z5⟩ := fac_box c1 (.int .i64 0) (.slice none 0 0) (.int .i64 0) (.int .i64 0)
    exact ret_fac3 Try.results21 rfl rfl rfl x5 rfl ⟨⟨_, rfl, facB_zero _ _ _⟩, y5 _ _ hB1 (by omega)⟩
  · have hS : allS f l = allG f l := if_neg (by rw [show f.ok = true from hok]; decide)
    rw [hS]
    rw [hok] at HCK
    clear hok hS
    go_enter Try.func21, Try.ntmps21
    go_wp2_with fail
    refine named ?_
    intro W hW
    obtain ⟨b0, b1, hbW, hsz⟩ := boxes2 hW
    clear hW
    refine (HCK.out W (HX.out.below hbW)).mono ?_
    rintro e w1 ⟨rfl, hb1⟩
    have hB1 := hbW.trans (hb1.mono (by omega))
    have c0 := b0.below hb1 (by omega)
    have c1 := b1.below hb1 (by omega)
    have hx1 := (HX.out.below hbW).below hb1
    have hs1 := hb1.size
    have hz1 : w.heap.size + 2 ≤ w1.heap.size := by omega
    clear hb1 hbW b0 b1
    go_wp2_with fail
    go_loopw [7, 8, 9] (fun i _ _ wr => ∃ (j : Nat) (g : Fct) (B : Option Addr) (d : Nat), j ≤ l.length ∧ i = .int .i64 (j : Int) ∧ Bk wr w.heap.size 24 #[.int .i64 g.C, .slice B g.xs.length d, .int .i64 g.R, .int .i64 g.T] ∧
        Bk wr (w.heap.size + 1) 24 #[.int .i64 0, .slice none 0 0, .int .i64 0, .int .i64 0] ∧ SlArg wr B g.xs d ∧ g.xs.length ≤ f.xs.length ∧ (B = A ∨ ∀ a, B = some a → w.heap.size + 2 ≤ a.block) ∧ Below w.heap.size w wr ∧ w.heap.size + 2 ≤ wr.heap.size ∧
        allG f l = ((allG g (l.drop j)).1, (allG g (l.drop j)).2.1, (allG g (l.drop j)).2.2 + j)) (fun i _ _ _ => l.length - (intOf i).toNat)
    case atStart => exact ⟨0, f, A, c, Nat.zero_le _, rfl, c0, c1, hx1, Nat.le_refl _, .inl rfl, hB1, hz1, rfl⟩
    case round =>
      obtain ⟨j, g, B, d, hj, rfl, d0, d1, hsg, hgl, hav, hbj, hszj, hall⟩ := hrel
      have havq : ∀ q, w.heap.size ≤ q → q ≤ w.heap.size + 1 → 0 < g.xs.length → ∀ a, B = some a → a.block ≠ q := fun q hq hq2 hl a ha => by
        rcases hav with h | h
        · exact HX.out.old (g := q) hq (by omega) a (by rw [← h]; exact ha)
        · have := h a ha; omega
      have HAVQ := Lib.hid havq; have HALL := Lib.hid hall; have HAV := Lib.hid hav
      have hg60 : g.xs.length ≤ 9223372036854775807 := Nat.le_trans hsg.cap hsg.room
      clear c0 c1 hB1 havq hall hav
      obtain ⟨⟨r0, r1, r2, r3⟩, f0, f1, f2, f3⟩ := d0.all4
      by_cases hlt : (j : Int) < (l.length : Int)
      · obtain ⟨bl, off, hLA, hbl, hc⟩ := (HL.out.reads.below hbj).2 (by omega)
        subst hLA
        have hcell := hc j (by omega)
        have hdrop : l.drop j = l[j]?.getD 0 :: l.drop (j + 1) := by
          rw [List.drop_eq_getElem_cons (by omega), List.getElem?_eq_getElem (by omega)]; rfl
        have hfl := oftenF_len g (l[j]?.getD 0) 1
        have hfac := fun Y h => rfac_any g B d (l[j]?.getD 0) Y h
        have hal := HALL.out
        rw [hdrop, allG] at hal
        unfold facV at hfac
        have HFAC := Lib.hid hfac; have HFL := Lib.hid hfl; have HAL := Lib.hid hal
        clear hfac hfl hal hdrop hc
        generalize l[j]?.getD 0 = b at *
        have hblw : bl < wr.heap.size := by have := hbj.size; omega
        have KEEP : ∀ Y, Below wr.heap.size wr Y → (Y.cell? ⟨w.heap.size, 0, none⟩ = some (.int .i64 g.C) ∧ Y.cell? ⟨w.heap.size, 1, none⟩ = some (.slice B g.xs.length d) ∧ Y.cell? ⟨w.heap.size, 2, none⟩ = some (.int .i64 g.R) ∧ Y.cell? ⟨w.heap.size, 3, none⟩ = some (.int .i64 g.T)) ∧ Y.cell? ⟨bl, off + j, none⟩ = some (.float .f64 b) ∧ Below wr.heap.size wr Y :=
          fun Y h => ⟨(d0.below h d0.lt).c4, (h.cell (p := ⟨bl, off + j, none⟩) hblw).trans hcell, h⟩
        have HKEEP := Lib.hid KEEP
        have D0 := Lib.hid d0; have D1 := Lib.hid d1; have HSG := Lib.hid hsg; have HB := Lib.hid hbj
        have hwr0 : w.heap.size < wr.heap.size := by omega
        clear KEEP d0 d1 hsg hbj f0 f1 f2 f3
        have hj0 : (0 : Int) ≤ (j : Int) := by omega
        go_wp2_with fail
        go_cut [8, 9] (fun s8 s9 wx => ∃ (bq : Nat) (A2 : Option Addr) (c2 : Nat), s8 = .pointer (some ⟨bq, 0, none⟩) ∧ s9 = .int .i64 (oftenE g b 1) ∧ Bk wx bq 24 #[.int .i64 (oftenF g b 1).C, .slice A2 (oftenF g b 1).xs.length c2, .int .i64 (oftenF g b 1).R, .int .i64 (oftenF g b 1).T] ∧ SlArg wx A2 (oftenF g b 1).xs c2 ∧ (A2 = B ∨ ∀ a, A2 = some a → wr.heap.size ≤ a.block) ∧ Below wr.heap.size wr wx)
        case first =>
          generalize oftenE g b 1 = E at *
          generalize oftenF g b 1 = Fg at *
          go_region_held3 (fun X => (X.cell? ⟨w.heap.size, 0, none⟩ = some (.int .i64 g.C) ∧ X.cell? ⟨w.heap.size, 1, none⟩ = some (.slice B g.xs.length d) ∧ X.cell? ⟨w.heap.size, 2, none⟩ = some (.int .i64 g.R) ∧ X.cell? ⟨w.heap.size, 3, none⟩ = some (.int .i64 g.T)) ∧ X.cell? ⟨bl, off + j, none⟩ = some (.float .f64 b) ∧ Below wr.heap.size wr X)
            ((refine HKEEP.out _ ?_; repeat (first | assumption | exact Below.refl _ _ | refine Below.allocs ?_ _ | refine Below.sets ?_ (by dsimp only; omega) _ | refine Below.drews ?_ | refine Below.chain ?_ (by assumption))))
            (first
              | (go_at_call 14; ((with_reducible refine (HFAC.out _ (HSG.out.below (by repeat (first | assumption | exact Below.refl _ _ | refine Below.allocs ?_ _ | refine Below.sets ?_ (by dsimp only; omega) _ | refine Below.drews ?_ | refine Below.chain ?_ (by assumption))))).mono ?_); rintro e w5 ⟨⟨v, rfl, A2, c2, rfl, hs5, hA5⟩, hb5⟩); unfold facV; have hz5 : wr.heap.size ≤ w5.heap.size := Below.size (Below.chain (w := wr) (by repeat (first | assumption | exact Below.refl _ _ | refine Below.allocs ?_ _ | refine Below.sets ?_ (by dsimp only; omega) _ | refine Below.drews ?_ | refine Below.chain ?_ (by assumption))) hb5); (first | (have bx := Bk.below (show Bk (wr.alloc (.cells #[.int .i64 0, .slice none 0 0, .int .i64 0, .int .i64 0] 24)).drew wr.heap.size 24 #[.int .i64 0, .slice none 0 0, .int .i64 0, .int .i64 0] from Bk.new wr _ _) hb5 (Bk.lt (show Bk (wr.alloc (.cells #[.int .i64 0, .slice none 0 0, .int .i64 0, .int .i64 0] 24)).drew wr.heap.size 24 #[.int .i64 0, .slice none 0 0, .int .i64 0, .int .i64 0] from Bk.new wr _ _)); obtain ⟨⟨x0, x1, x2, x3⟩, y0, y1, y2, y3⟩ := bx.all4) | skip)))
          all_goals
            go_wp2_with fail
            go_meet
            refine ⟨_, A2, c2, rfl, rfl, ?_, ?_, ?_, ?_⟩
            · first
              | exact (fac_box bx _ _ _ _).1
              | exact Bk.new _ _ _
            · first
              | exact hs5.below ((Below.refl _ _).alloc (Nat.le_refl _) _)
              | (refine (fac_box bx _ _ _ _).2.2 _ _ _ hs5 (fun hl a ha => ?_)
                 rcases hA5 with h | h
                 · obtain ⟨ba, oa, e1, e2, _⟩ := HSG.out.reads.2 (by have := HFL.out; omega)
                   rw [h, e1] at ha; cases ha
                   show ba ≠ wr.heap.size; omega
                 · have h2 := h a ha
                   have h3 : (wr.alloc (.cells #[.int .i64 0, .slice none 0 0, .int .i64 0, .int .i64 0] 24)).heap.size ≤ a.block := h2
                   rw [World.size_alloc] at h3
                   omega)
            · rcases hA5 with h | h
              · exact .inl h
              · refine .inr fun a ha => ?_
                have h2 := h a ha
                first
                | exact h2
                | (have h3 : (wr.alloc (.cells #[.int .i64 0, .slice none 0 0, .int .i64 0, .int .i64 0] 24)).heap.size ≤ a.block := h2
                   rw [World.size_alloc] at h3
                   omega)
            · repeat (first | assumption | exact Below.refl _ _ | refine Below.allocs ?_ _ | refine Below.sets ?_ (by dsimp only; omega) _ | refine Below.drews ?_ | refine Below.chain ?_ (by assumption))
        case rest =>
          obtain ⟨bq, A2, c2, rfl, rfl, hbx, hs6, hfar, hb9⟩ := hcut
          have e0 := D0.out.below hb9 (by omega)
          have e1 := D1.out.below hb9 (by omega)
          have hsg6 := HSG.out.below hb9
          have hbw9 := HB.out.trans (hb9.mono (by omega))
          have hsz9 := hb9.size
          have hal := HAL.out
          clear r0 r1 r2 r3
          by_cases hE : oftenE g b 1 = 0
          · rw [if_pos hE] at hal
            have HAL2 := Lib.hid hal
            rw [hE]
            clear hal hE
            generalize oftenF g b 1 = Fg at *
            obtain ⟨p0, p1, p2, p3⟩ := hbx.c4
            obtain ⟨⟨r0, r1, r2, r3⟩, f0, f1, f2, f3⟩ := e0.all4
            go_wp2
            go_roundw
            case rel =>
              obtain ⟨u5, v5, z5⟩ := fac_box e0 (.int .i64 Fg.C) (.slice A2 Fg.xs.length c2) (.int .i64 Fg.R) (.int .i64 Fg.T)
              have hsz4 : ∀ (W : World) (a : Addr) (u : Value), (W.setCell a u).heap.size = W.heap.size := fun W a u => by simp [World.setCell]
              refine ⟨j + 1, Fg, A2, c2, by omega, by go_num, u5, bk_stored4 e1 (by omega) _ _ _ _, z5 _ _ _ hs6 (fun hl a ha => ?_), Nat.le_trans HFL.out hgl, ?_, v5 _ _ hbw9 (Nat.le_refl _), by rw [hsz4, hsz4, hsz4, hsz4]; omega, by rw [HAL2.out, Nat.add_assoc, Nat.add_comm 1 j]⟩
              · rcases hfar with h | h
                · exact HAVQ.out _ (Nat.le_refl _) (by omega) (by have := HFL.out; omega) a (by rw [← h]; exact ha)
                · have := h a ha; omega
              · rcases hfar with h | h
                · rcases HAV.out with h' | h'
                  · exact .inl (h.trans h')
                  · exact .inr (fun a ha => h' a (by rw [← h]; exact ha))
                · exact .inr (fun a ha => by have := h a ha; omega)
            case measure => simp [intOf]; omega
          · rw [if_neg hE] at hal
            have HAL2 := Lib.hid hal
            have hne : (oftenE g b 1 != 0) = true := by rw [bne_iff_ne]; exact hE
            clear hal hE hbx
            generalize oftenE g b 1 = E at *
            obtain ⟨r0, r1, r2, r3⟩ := e0.c4
            obtain ⟨⟨t0, t1, t2, t3⟩, f0, f1, f2, f3⟩ := e1.all4
            go_wp2
            rw [HAL2.out]
            obtain ⟨u5, v5, z5⟩ := fac_box e1 (.int .i64 g.C) (.slice B g.xs.length d) (.int .i64 g.R) (.int .i64 g.T)
            refine ret_fac3 Try.results21 rfl rfl rfl u5 rfl ⟨⟨_, by rw [Nat.zero_add]; rfl, B, d, rfl, z5 _ _ _ hsg6 (HAVQ.out _ (by omega) (Nat.le_refl _)), ?_⟩, v5 _ _ hbw9 (by omega)⟩
            rcases HAV.out with h | h
            · exact .inl h
            · exact .inr (fun a ha => by have := h a ha; omega)
      · obtain rfl : j = l.length := by omega
        have hal := HALL.out
        rw [List.drop_length, allG] at hal
        have HAL := Lib.hid hal
        clear hal f0 f1 f2 f3
        obtain ⟨⟨t0, t1, t2, t3⟩, f0, f1, f2, f3⟩ := d1.all4
        go_wp2
        rw [HAL.out]
        obtain ⟨u5, v5, z5⟩ := fac_box d1 (.int .i64 g.C) (.slice B g.xs.length d) (.int .i64 g.R) (.int .i64 g.T)
        refine ret_fac3 Try.results21 rfl rfl rfl u5 rfl ⟨⟨_, by rw [Nat.zero_add]; rfl, B, d, rfl, z5 _ _ _ hsg (HAVQ.out _ (by omega) (Nat.le_refl _)), ?_⟩, v5 _ _ hbj (by omega)⟩
        rcases HAV.out with h | h
        · exact .inl h
        · exact .inr (fun a ha => by have := h a ha; omega)

end Go.Proofs.Ytlkgkgnkmjbnjaa
