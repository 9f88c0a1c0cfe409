/- Fading by the numbers of a list, one behind the other. -/
import Derived.Test.YtdpmpfbbfknlmaaDg9
namespace Lev
/-- From factor f on, by the numbers of a list: what is left, the error, how many were taken. -/
def allG (f : Fct) : List Nat → Fct × Int × Nat
  | [] => (f, 0, 0)
  | b :: l => if oftenE f b 1 = 0 then ((allG (oftenF f b 1) l).1, (allG (oftenF f b 1) l).2.1, (allG (oftenF f b 1) l).2.2 + 1) else (f, oftenE f b 1, 0)
def allS (f : Fct) (l : List Nat) : Fct × Int × Nat := if f.ok = false then (Fct.zero, 1, 0) else allG f l
end Lev
namespace Go.Proofs.Ytdpmpfbbfknlmaa
open Go.RowKit Go.Shelf Lev

theorem stored4_other {w : World} {g q : Nat} {t : TypeId} {cs : Array Value} (h : Bk w q t cs) (hne : q ≠ g) (v0 v1 v2 v3 : Value) : Bk (stored4 w g v0 v1 v2 v3) q t cs := by
  unfold stored4
  exact (((h.other (p := ⟨g, 0, none⟩) hne v0).other (p := ⟨g, 1, none⟩) hne v1).other (p := ⟨g, 2, none⟩) hne v2).other (p := ⟨g, 3, none⟩) hne v3

set_option maxRecDepth 100000 in
set_option maxHeartbeats 1000000 in
theorem fall_any (f : Fct) (A : Option Addr) (c : Nat) (l : List Nat) (L : Option Addr) (cl : Nat) (w : World) (hx : SlArg w A f.xs c) (hl : SlArg w L l cl) (hll : l.length ≤ 1000) :
    Calls Try.prog 9 #[facV f.C A f.xs.length c f.R f.T, .slice L l.length cl] w fun e w' => (∃ v, e = .returned (.tuple #[v, .int .i64 ((allS f l).2.2 : Int), .int .i64 (allS f l).2.1]) ∧ FacB w.heap.size A w' v (allS f l).1) ∧ Below w.heap.size w w' := by
  have HCK := Lib.hid (fun W hW => check_any f.C A f.xs c f.R f.T W hW)
  have HX := Lib.hid hx; have HL := Lib.hid hl; clear hx hl
  unfold facV at HCK ⊢
  cases hok : checkS f.C f.xs f.R f.T
  · have hS : allS f l = (Fct.zero, 1, 0) := if_pos hok
    rw [hS]
    rw [hok] at HCK
    go_enter Try.func9, Try.ntmps9
    go_wp2_with fail
    obtain ⟨W, hW⟩ : ∃ W, W = (w.alloc (.cells #[.int .i64 f.C, .slice A f.xs.length c, .int .i64 f.R, .int .i64 f.T] 24)).alloc (.cells #[.int .i64 0, .slice none 0 0, .int .i64 0, .int .i64 0] 24) := ⟨_, rfl⟩
    rw [← hW]
    have b0 : Bk W w.heap.size 24 #[.int .i64 f.C, .slice A f.xs.length c, .int .i64 f.R, .int .i64 f.T] := by rw [hW]; exact (Bk.new _ _ _).alloc _
    have b1 : Bk W (w.heap.size + 1) 24 #[.int .i64 0, .slice none 0 0, .int .i64 0, .int .i64 0] := by rw [hW]; have := Bk.new (w.alloc (.cells #[.int .i64 f.C, .slice A f.xs.length c, .int .i64 f.R, .int .i64 f.T] 24)) 24 #[.int .i64 0, .slice none 0 0, .int .i64 0, .int .i64 0]; simpa using this
    have hbW : Below w.heap.size w W := by rw [hW]; exact ((Below.refl _ _).alloc (Nat.le_refl _) _).alloc (by simp) _
    have hszW : W.heap.size = w.heap.size + 2 := by rw [hW]; simp
    clear hW
    refine (HCK.out W (HX.out.below hbW)).mono ?_
    rintro e w1 ⟨rfl, hb1⟩
    have c0 := b0.below hb1 (by omega)
    have c1 := b1.below hb1 (by omega)
    have hbw1 : Below w.heap.size w w1 := hbW.trans (hb1.mono (by omega))
    have hsz1 : w.heap.size + 2 ≤ w1.heap.size := by have := hb1.size; omega
    have r0 := c1.cell 0; have r1 := c1.cell 1; have r2 := c1.cell 2; have r3 := c1.cell 3
    have g0 := c1.frozen 0; have g1 := c1.frozen 1; have g2 := c1.frozen 2; have g3 := c1.frozen 3
    have KB := Lib.hid hbw1; have C1 := Lib.hid c1
    clear hb1 hbW hbw1 b0 b1 c0 c1 hszW hsz1 hok hS hll
    simp at r0 r1 r2 r3
    go_wp2
    obtain ⟨x5, y5, z5⟩ := fac_box C1.out (.int .i64 0) (.slice none 0 0) (.int .i64 0) (.int .i64 0)
    have hbf := y5 _ _ KB.out (by omega)
    unfold stored4 at x5 hbf
    generalize (((w1.setCell ⟨w.heap.size + 1, 0, none⟩ (.int .i64 0)).setCell ⟨w.heap.size + 1, 1, none⟩ (.slice none 0 0)).setCell ⟨w.heap.size + 1, 2, none⟩ (.int .i64 0)).setCell ⟨w.heap.size + 1, 3, none⟩ (.int .i64 0) = wf at *
    have s0 := x5.cell 0; have s1 := x5.cell 1; have s2 := x5.cell 2; have s3 := x5.cell 3
    simp at s0 s1 s2 s3
    refine bodyPost_ret (v := .tuple #[zeroFac, .int .i64 0, .int .i64 1]) (by simp [results, Try.results9, go_sem, zeroFac, s0, s1, s2, s3]) rfl ?_
    exact ⟨⟨_, rfl, facB_zero _ _ _⟩, hbf⟩
  · have hS : allS f l = allG f l := if_neg (by rw [show f.ok = true from hok]; decide)
    rw [hS]
    rw [hok] at HCK
    go_enter Try.func9, Try.ntmps9
    go_wp2_with fail
    obtain ⟨W, hW⟩ : ∃ W, W = (w.alloc (.cells #[.int .i64 f.C, .slice A f.xs.length c, .int .i64 f.R, .int .i64 f.T] 24)).alloc (.cells #[.int .i64 0, .slice none 0 0, .int .i64 0, .int .i64 0] 24) := ⟨_, rfl⟩
    rw [← hW]
    have b0 : Bk W w.heap.size 24 #[.int .i64 f.C, .slice A f.xs.length c, .int .i64 f.R, .int .i64 f.T] := by rw [hW]; exact (Bk.new _ _ _).alloc _
    have b1 : Bk W (w.heap.size + 1) 24 #[.int .i64 0, .slice none 0 0, .int .i64 0, .int .i64 0] := by rw [hW]; have := Bk.new (w.alloc (.cells #[.int .i64 f.C, .slice A f.xs.length c, .int .i64 f.R, .int .i64 f.T] 24)) 24 #[.int .i64 0, .slice none 0 0, .int .i64 0, .int .i64 0]; simpa using this
    have hbW : Below w.heap.size w W := by rw [hW]; exact ((Below.refl _ _).alloc (Nat.le_refl _) _).alloc (by simp) _
    have hszW : W.heap.size = w.heap.size + 2 := by rw [hW]; simp
    clear hW
    refine (HCK.out W (HX.out.below hbW)).mono ?_
    rintro e w1 ⟨rfl, hb1⟩
    have c0 := b0.below hb1 (by omega)
    have c1 := b1.below hb1 (by omega)
    have hbw1 : Below w.heap.size w w1 := hbW.trans (hb1.mono (by omega))
    have hsz1 : w.heap.size + 2 ≤ w1.heap.size := by have := hb1.size; omega
    have KB := Lib.hid hbw1; have C0 := Lib.hid c0; have C1 := Lib.hid c1; have HS1 := Lib.hid hsz1
    have HX1 := Lib.hid ((HX.out.below hbW).below hb1)
    clear hb1 hbW hbw1 b0 b1 c0 c1 hszW hsz1 hok hS
    have hpos0 : ∀ q, 0 < f.xs.length → q ∈ [w.heap.size, w.heap.size + 1] → ∀ a, A = some a → a.block ≠ q := fun q hl hq a ha => by
      obtain ⟨ba, oa, hA, hba, _⟩ := HX.out.reads.2 hl
      rw [hA] at ha; cases ha
      simp at hq
      show ba ≠ q; omega
    have HP := Lib.hid hpos0; clear hpos0
    go_wp2_with fail
    go_loopw [17] (fun i wr => ∃ (j : Nat) (g : Fct) (B : Option Addr) (d : Nat), j ≤ l.length ∧ i = .int .i64 (j : Int) ∧ Bk wr w.heap.size 24 #[.int .i64 g.C, .slice B g.xs.length d, .int .i64 g.R, .int .i64 g.T] ∧
        Bk wr (w.heap.size + 1) 24 #[.int .i64 0, .slice none 0 0, .int .i64 0, .int .i64 0] ∧ SlArg wr B g.xs d ∧ g.xs.length ≤ f.xs.length ∧ (B = A ∨ ∀ a, B = some a → w.heap.size + 2 ≤ a.block) ∧ Below w.heap.size w wr ∧ w.heap.size + 2 ≤ wr.heap.size ∧
        allG f l = ((allG g (l.drop j)).1, (allG g (l.drop j)).2.1, (allG g (l.drop j)).2.2 + j)) (fun i _ => l.length - (intOf i).toNat)
    case atStart => exact ⟨0, f, A, c, Nat.zero_le _, rfl, C0.out, C1.out, HX1.out, Nat.le_refl _, .inl rfl, KB.out, HS1.out, rfl⟩
    case round =>
      obtain ⟨j, g, B, d, hj, rfl, d0, d1, hsg, hgl, hav, hbj, hszj, hall⟩ := hrel
      have havq : ∀ q, 0 < g.xs.length → q ∈ [w.heap.size, w.heap.size + 1] → ∀ a, B = some a → a.block ≠ q := fun q hl hq a ha => by
        rcases hav with h | h
        · exact HP.out q (by omega) hq a (by rw [← h]; exact ha)
        · have := h a ha; simp at hq; omega
      have k0 := d0.cell 0; have k1 := d0.cell 1; have k2 := d0.cell 2; have k3 := d0.cell 3
      have f0 := d0.frozen 0; have f1 := d0.frozen 1; have f2 := d0.frozen 2; have f3 := d0.frozen 3
      have D0 := Lib.hid d0; have D1 := Lib.hid d1; have HSG := Lib.hid hsg; have HGL := Lib.hid hgl; have HAV := Lib.hid hav; have HB := Lib.hid hbj; have HSZ := Lib.hid hszj; have HA := Lib.hid hall; have HAQ := Lib.hid havq
      clear d0 d1 hsg hgl hav hbj hszj hall havq
      simp at k0 k1 k2 k3
      by_cases hlt : (j : Int) < (l.length : Int)
      · obtain ⟨bl, off, hL, hbl, hc⟩ := (HL.out.reads.below HB.out).2 (by omega)
        have hcell := hc j (by omega)
        have hdrop : l.drop j = l[j]?.getD 0 :: l.drop (j + 1) := by
          rw [List.drop_eq_getElem_cons (by omega), List.getElem?_eq_getElem (by omega)]; rfl
        subst hL
        have HE := Lib.hid (factor_any g B d (l[j]?.getD 0) wr HSG.out)
        unfold facV at HE
        have HD := Lib.hid hdrop
        generalize l[j]?.getD 0 = b at *
        clear hdrop hc hbl
        go_wp2_with fail
        refine HE.out.mono ?_
        rintro e w2 ⟨⟨v, rfl, A2, c2, rfl, hs2, hav2⟩, hb2⟩
        unfold facV
        have e0 := D0.out.below hb2 (by have := HSZ.out; omega)
        have e1 := D1.out.below hb2 (by have := HSZ.out; omega)
        have hsg2 := HSG.out.below hb2
        have x0 := e0.cell 0; have x1 := e0.cell 1; have x2 := e0.cell 2; have x3 := e0.cell 3
        have y0 := e0.frozen 0; have y1 := e0.frozen 1; have y2 := e0.frozen 2; have y3 := e0.frozen 3
        have u0 := e1.cell 0; have u1 := e1.cell 1; have u2 := e1.cell 2; have u3 := e1.cell 3
        have v0 := e1.frozen 0; have v1 := e1.frozen 1; have v2 := e1.frozen 2; have v3 := e1.frozen 3
        have hbw2 : Below w.heap.size w w2 := HB.out.trans (hb2.mono (by have := HSZ.out; omega))
        have hsz2 : w.heap.size + 2 ≤ w2.heap.size := by have := hb2.size; have := HSZ.out; omega
        have hfl := oftenF_len g b 1
        have hal := HA.out
        rw [HD.out, allG] at hal
        have E0 := Lib.hid e0; have E1 := Lib.hid e1; have HSG2 := Lib.hid hsg2; have HS2 := Lib.hid hs2; have HAV2 := Lib.hid hav2; have HB2 := Lib.hid hb2; have HBW2 := Lib.hid hbw2; have HSZ2 := Lib.hid hsz2; have HFL := Lib.hid hfl
        clear e0 e1 hsg2 hs2 hav2 hb2 hbw2 hsz2 hfl k0 k1 k2 k3 f0 f1 f2 f3 HE
        simp at x0 x1 x2 x3 u0 u1 u2 u3
        have hq0 : w.heap.size < w2.heap.size := by have := HSZ2.out; omega
        have hq1 : w.heap.size + 1 < w2.heap.size := by have := HSZ2.out; omega
        have KAL := fun o : Obj => (Below.refl w2.heap.size w2).alloc (Nat.le_refl _) o
        have HKA := Lib.hid KAL; clear KAL
        by_cases hE : oftenE g b 1 = 0
        · rw [if_pos hE] at hal
          have HAL := Lib.hid hal
          rw [hE]
          clear hal hE
          generalize oftenF g b 1 = F at *
          go_wp2
          go_roundw
          case rel =>
            have hav : ∀ q, 0 < F.xs.length → q ∈ [w.heap.size, w.heap.size + 1] → ∀ a, A2 = some a → a.block ≠ q := fun q hl hq a ha => by
              have := HFL.out
              rcases HAV2.out with h | h
              · exact HAQ.out q (by omega) hq a (by rw [← h]; exact ha)
              · have := h a ha; have := HSZ.out; simp at hq; omega
            obtain ⟨x5, y5, z5⟩ := fac_box E0.out (.int .i64 F.C) (.slice A2 F.xs.length c2) (.int .i64 F.R) (.int .i64 F.T)
            have hsz4 : ∀ (W : World) (a : Addr) (u : Value), (W.setCell a u).heap.size = W.heap.size := fun W a u => by simp [World.setCell]
            refine ⟨j + 1, F, A2, c2, by omega, by go_num, x5.alloc (.cells #[.int .i64 F.C, .slice A2 F.xs.length c2, .int .i64 F.R, .int .i64 F.T] 24), (stored4_other E1.out (by omega) _ _ _ _).alloc (.cells #[.int .i64 F.C, .slice A2 F.xs.length c2, .int .i64 F.R, .int .i64 F.T] 24), (z5 _ _ _ HS2.out (fun hl => hav _ hl (by simp))).below ((Below.refl _ _).alloc (Nat.le_refl _) (.cells #[.int .i64 F.C, .slice A2 F.xs.length c2, .int .i64 F.R, .int .i64 F.T] 24)), Nat.le_trans HFL.out HGL.out, ?_, (y5 _ _ HBW2.out (Nat.le_refl _)).alloc (by unfold stored4; rw [hsz4, hsz4, hsz4, hsz4]; exact Nat.le_of_lt hq0) (.cells #[.int .i64 F.C, .slice A2 F.xs.length c2, .int .i64 F.R, .int .i64 F.T] 24), by rw [World.size_alloc, hsz4, hsz4, hsz4, hsz4]; exact Nat.le_succ_of_le HSZ2.out, ?_⟩
            · rcases HAV2.out with h | h
              · rcases HAV.out with h' | h'
                · exact .inl (h.trans h')
                · exact .inr (fun a ha => h' a (by rw [← h]; exact ha))
              · exact .inr (fun a ha => by have := h a ha; have := HSZ.out; omega)
            · rw [HAL.out, Nat.add_assoc, Nat.add_comm 1 j]
          case measure => simp [intOf]; omega
        · rw [if_neg hE] at hal
          have HAL := Lib.hid hal
          have hne : (oftenE g b 1 != 0) = true := by rw [bne_iff_ne]; exact hE
          have hne2 : (oftenE g b 1 == 0) = false := by rw [beq_eq_false_iff_ne]; exact hE
          clear hal hE
          generalize oftenE g b 1 = E at *
          generalize oftenF g b 1 = F at *
          go_wp2
          rw [HAL.out]
          obtain ⟨x5, y5, z5⟩ := fac_box E1.out (.int .i64 g.C) (.slice B g.xs.length d) (.int .i64 g.R) (.int .i64 g.T)
          have x5 := x5.alloc (.cells #[.int .i64 F.C, .slice A2 F.xs.length c2, .int .i64 F.R, .int .i64 F.T] 24)
          have hsz4 : ∀ (W : World) (a : Addr) (u : Value), (W.setCell a u).heap.size = W.heap.size := fun W a u => by simp [World.setCell]
          have hbf := (y5 _ _ HBW2.out (by omega)).alloc (by unfold stored4; rw [hsz4, hsz4, hsz4, hsz4]; exact Nat.le_of_lt hq0) (.cells #[.int .i64 F.C, .slice A2 F.xs.length c2, .int .i64 F.R, .int .i64 F.T] 24)
          have hxf := (z5 _ _ _ HSG2.out (fun hl => HAQ.out _ hl (by simp))).below ((Below.refl _ _).alloc (Nat.le_refl _) (.cells #[.int .i64 F.C, .slice A2 F.xs.length c2, .int .i64 F.R, .int .i64 F.T] 24))
          unfold stored4 at x5 hbf hxf
          generalize ((((w2.setCell ⟨w.heap.size + 1, 0, none⟩ (.int .i64 g.C)).setCell ⟨w.heap.size + 1, 1, none⟩ (.slice B g.xs.length d)).setCell ⟨w.heap.size + 1, 2, none⟩ (.int .i64 g.R)).setCell ⟨w.heap.size + 1, 3, none⟩ (.int .i64 g.T)).alloc (.cells #[.int .i64 F.C, .slice A2 F.xs.length c2, .int .i64 F.R, .int .i64 F.T] 24) = wf at *
          have s0 := x5.cell 0; have s1 := x5.cell 1; have s2 := x5.cell 2; have s3 := x5.cell 3
          simp at s0 s1 s2 s3
          refine bodyPost_ret (v := .tuple #[facV g.C B g.xs.length d g.R g.T, .int .i64 (j : Int), .int .i64 E]) (by simp [results, Try.results9, go_sem, facV, s0, s1, s2, s3]) rfl ?_
          refine ⟨⟨_, by rw [Nat.zero_add], B, d, rfl, hxf, ?_⟩, hbf⟩
          rcases HAV.out with h | h
          · exact .inl h
          · exact .inr (fun a ha => by have := h a ha; omega)
      · obtain rfl : j = l.length := by omega
        have hal := HA.out
        rw [List.drop_length, allG] at hal
        have HAL := Lib.hid hal
        have u0 := D1.out.cell 0; have u1 := D1.out.cell 1; have u2 := D1.out.cell 2; have u3 := D1.out.cell 3
        have v0 := D1.out.frozen 0; have v1 := D1.out.frozen 1; have v2 := D1.out.frozen 2; have v3 := D1.out.frozen 3
        simp at u0 u1 u2 u3
        clear hal
        go_wp2
        rw [HAL.out]
        obtain ⟨x5, y5, z5⟩ := fac_box D1.out (.int .i64 g.C) (.slice B g.xs.length d) (.int .i64 g.R) (.int .i64 g.T)
        have hbf := y5 _ _ HB.out (by omega)
        have hxf := z5 _ _ _ HSG.out (fun hl => HAQ.out _ hl (by simp))
        unfold stored4 at x5 hbf hxf
        generalize (((wr.setCell ⟨w.heap.size + 1, 0, none⟩ (.int .i64 g.C)).setCell ⟨w.heap.size + 1, 1, none⟩ (.slice B g.xs.length d)).setCell ⟨w.heap.size + 1, 2, none⟩ (.int .i64 g.R)).setCell ⟨w.heap.size + 1, 3, none⟩ (.int .i64 g.T) = wf at *
        have s0 := x5.cell 0; have s1 := x5.cell 1; have s2 := x5.cell 2; have s3 := x5.cell 3
        simp at s0 s1 s2 s3
        refine bodyPost_ret (v := .tuple #[facV g.C B g.xs.length d g.R g.T, .int .i64 (l.length : Int), .int .i64 0]) (by simp [results, Try.results9, go_sem, facV, s0, s1, s2, s3]) rfl ?_
        refine ⟨⟨_, by rw [Nat.zero_add], B, d, rfl, hxf, ?_⟩, hbf⟩
        rcases HAV.out with h | h
        · exact .inl h
        · exact .inr (fun a ha => by have := h a ha; omega)

end Go.Proofs.Ytdpmpfbbfknlmaa
