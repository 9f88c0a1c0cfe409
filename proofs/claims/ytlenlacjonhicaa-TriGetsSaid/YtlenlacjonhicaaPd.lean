/- The walk of TriLines. -/
import Derived.Test.YtlenlacjonhicaaPc
namespace Go.Proofs.Ytlenlacjonhicaa
open Go.RowKit Go.Shelf Lev

theorem bk_stored4 {w : World} {g q : Nat} {t : TypeId} {cs : Array Value} (h : Bk w q t cs) (hne : q ≠ g) (v0 v1 v2 v3 : Value) : Bk (stored4 w g v0 v1 v2 v3) q t cs := by
  unfold stored4
  exact (((h.other (p := ⟨g, 0, none⟩) hne v0).other (p := ⟨g, 1, none⟩) hne v1).other (p := ⟨g, 2, none⟩) hne v2).other (p := ⟨g, 3, none⟩) hne v3

set_option maxRecDepth 100000 in
set_option maxHeartbeats 2000000 in
theorem triLines (f : Fct) (A : Option Addr) (c : Nat) (half : Int) (w : World) (hx : SlArg w A f.xs c) (hh : -9223372036854775808 ≤ half ∧ half ≤ 9223372036854775807) :
    Calls Try.prog 7 #[facV f.C A f.xs.length c f.R f.T, .int .i64 half] w fun e w' => e = .returned (.bool true) ∧ Below w.heap.size w w' := by
  have hl63 : f.xs.length ≤ 9223372036854775807 := Nat.le_trans hx.cap hx.room
  have K0 := ((Keep.start w).more hx).alloc #[.int .i64 f.C, .slice A f.xs.length c, .int .i64 f.R, .int .i64 f.T] 24
  have HX := Lib.hid hx
  clear hx
  unfold facV
  by_cases h60 : (60 : Int) < (f.xs.length : Int)
  · go_enter Try.func7, Try.ntmps7
    go_wp2_with fail
    refine (live07 _).mono ?_
    rintro e w' ⟨rfl, hb⟩
    have HB := Lib.hid (Below.add K0.below hb)
    clear hb
    go_wp2
    go_ret
    exact ⟨rfl, HB.out⟩
  · cases hok : f.ok
    · go_enter Try.func7, Try.ntmps7
      go_wp2_with fail
      refine named ?_
      intro W hW
      rw [show w.alloc _ = W from hW.symm] at K0
      clear hW
      have h3 := check_any f.C A f.xs c f.R f.T W (K0.arg (.head _))
      rw [show checkS f.C f.xs f.R f.T = false from hok] at h3
      refine h3.mono ?_
      clear h3 hok
      rintro e w1 ⟨rfl, hb1⟩
      have K1 := (K0.call hb1).below
      clear K0 hb1
      go_wp2_with fail
      refine (live07 _).mono ?_
      rintro e w' ⟨rfl, hb⟩
      have HB := Lib.hid (Below.add K1 hb)
      clear hb
      go_wp2
      go_ret
      exact ⟨rfl, HB.out⟩
    · have hol := ok_len hok
      have hC1 := hol.1
      have hC6 := hol.2.1
      have hsz0 : sizeI f.C ≠ 0 := size_ne hC1 hC6
      have hnE : newE f.C = 0 := by unfold newE; rw [if_neg hsz0]
      have hnS : newS f.C = ⟨f.C, lnS f half 0, 0, 0⟩ := by unfold newS; rw [if_neg hsz0]; rfl
      have hnew := fun W => new_any f.C W
      rw [hnE, hnS] at hnew
      have HNEW := Lib.hid hnew; have HOK := Lib.hid hok
      have hll := fun k => lnS_length hok half k
      have HLL := Lib.hid hll
      have hhalf : (1 ≤ half ∧ half ≤ f.C) ∨ (half < 1) ∨ (¬ half < 1 ∧ f.C < half) := by omega
      have HHF := Lib.hid hhalf
      have hck := fun W hW => check_any f.C A f.xs c f.R f.T W hW
      rw [show checkS f.C f.xs f.R f.T = true from hok] at hck
      have HCK := Lib.hid hck
      clear hok hol hnE hnS hnew hll hhalf hck hsz0
      go_enter Try.func7, Try.ntmps7
      go_wp2_with fail
      refine named ?_
      intro W hW
      rw [show w.alloc _ = W from hW.symm] at K0
      clear hW
      refine (HCK.out _ (K0.arg (.head _))).mono ?_
      rintro e w1 ⟨rfl, hb1⟩
      have K1 := K0.call hb1
      clear K0 hb1
      obtain ⟨r0, r1, r2, r3⟩ := (K1.box (.head _)).c4
      go_wp2_with fail
      refine (HNEW.out _).mono ?_
      clear r0 r1 r2 r3
      rintro e w2 ⟨⟨v, rfl, A2, c2, rfl, hs2, hA2⟩, hb2⟩
      have K2 := K1.call hb2
      have hfr := (K1.box (.head _)).lt
      have hsz12 := hb2.size
      clear K1 hb2
      rw [HLL.out]
      unfold facV
      obtain ⟨r0, r1, r2, r3⟩ := (K2.box (.head _)).c4
      have hlt2 := (K2.box (.head _)).lt
      go_wp2_with fail
      obtain ⟨G, hG⟩ : ∃ G, G = w2.heap.size := ⟨_, rfl⟩
      have hwG : w.heap.size < G := by omega
      obtain ⟨X0, hX0⟩ : ∃ X0, X0 = w2.alloc (.cells #[.int .i64 f.C, .slice A2 f.xs.length c2, .int .i64 0, .int .i64 0] 24) := ⟨_, rfl⟩
      have K3 := K2.alloc #[.int .i64 f.C, .slice A2 f.xs.length c2, .int .i64 0, .int .i64 0] 24
      have hs3 := hs2.below ((Below.refl w2.heap.size w2).alloc (Nat.le_refl _) (.cells #[.int .i64 f.C, .slice A2 f.xs.length c2, .int .i64 0, .int .i64 0] 24))
      rw [← hX0] at K3 hs3 ⊢
      have hA3 : ∀ a, A2 = some a → a.block ≠ G ∧ a.block ≠ w.heap.size := fun a ha => by
        obtain ⟨ba, oa, e1, e2, _⟩ := hs2.reads.2 (by
          rw [HLL.out]
          have := ok_len HOK.out
          have h4 := st_all (f.C + 1).toNat
          have h5 : 2 ≤ (f.C + 1).toNat := by omega
          have h6 := Nat.mul_le_mul h5 h5
          omega)
        rcases hA2 with h | h
        · rw [h] at ha; cases ha
        · have h7 := h a ha
          rw [e1] at ha; cases ha
          have h8 : ba < w2.heap.size := e2
          have h9 : w1.heap.size ≤ ba := h7
          exact ⟨by show ba ≠ G; omega, by show ba ≠ w.heap.size; omega⟩
      rw [← hG] at K3 ⊢
      have HG := Lib.hid hG; have HA3 := Lib.hid hA3; have HS3 := Lib.hid hs3
      have hf3 := K3.box (.tail _ (.head _))
      have hg3 := K3.box (.head _)
      have hb3 := K3.below
      clear hG hX0 hA3 hs3 hs2 hA2 K2 r0 r1 r2 r3 hlt2 hfr hsz12
      go_loopw [7, 8, 9, 10] (fun k _ _ _ wr => ∃ (m : Nat) (B : Option Addr) (d : Nat), k = .int .i64 (m : Int) ∧ (m : Int) ≤ f.C + 1 ∧ Bk wr w.heap.size 24 #[.int .i64 f.C, .slice A f.xs.length c, .int .i64 f.R, .int .i64 f.T] ∧
          Bk wr G 24 #[.int .i64 f.C, .slice B f.xs.length d, .int .i64 0, .int .i64 0] ∧ SlArg wr B (lnS f half m) d ∧ Below w.heap.size w wr) (fun k _ _ _ _ => (f.C + 1 - intOf k).toNat)
      case atStart => exact ⟨0, A2, c2, rfl, by omega, hf3, hg3, HS3.out, hb3⟩
      case round =>
        obtain ⟨m, B, d, rfl, hm, hfr, hgr, hsr, hbr⟩ := hrel
        have hxr := HX.out.below hbr
        have K5 := (((Keep.mk hbr (fun _ h => absurd h List.not_mem_nil) (fun _ h => absurd h List.not_mem_nil) : Keep w wr [] []).known hfr).known hgr)
        have K6 := (K5.more hxr).more hsr
        clear hf3 hg3 hb3 K3 hbr K5
        obtain ⟨r0, r1, r2, r3⟩ := hfr.c4
        obtain ⟨s0, s1, s2, s3⟩ := hgr.c4
        by_cases hlt : (m : Int) ≤ f.C
        · have hsb := lnS_step HOK.out half (k := m) hlt
          have hsf := setF_step HOK.out half (k := m) hlt
          have hset := fun Y A5 c5 h1 h2 => set_any ⟨f.C, lnS f half m, 0, 0⟩ B d (ixS f.C half m : Int) (lineS f (ixS f.C half m)) A5 c5 Y h1 h2
          rw [hsb, hsf] at hset
          have hline := fun Y h => line_any f A c (ixS f.C half m : Int) Y h
          have hixv : (ixS f.C half m : Int) = if 1 ≤ half ∧ half ≤ f.C then ((m : Int) + half) % (f.C + 1) else (m : Int) := by
            unfold ixS
            by_cases h : 1 ≤ half ∧ half ≤ f.C
            · rw [if_pos h, if_pos h]
              have e1 : (f.C + 1) = (((f.C + 1).toNat : Nat) : Int) := by omega
              have e2 : (m : Int) + half = ((m + half.toNat : Nat) : Int) := by omega
              rw [e2]
              conv => rhs; rw [e1]
              rw [← Int.natCast_emod]
            · rw [if_neg h, if_neg h]
          have hixl := ixS_lt (C := f.C) (half := half) (k := m) hC1 hlt
          have hixb : ∃ iv : Int, iv = (ixS f.C half m : Int) := ⟨_, rfl⟩
          obtain ⟨iv, hiv⟩ := hixb
          rw [← hiv] at hset hline hixv hixl
          have hiv0 : 0 ≤ iv := by omega
          dsimp only at hset
          rw [HLL.out] at hset
          unfold facV at hset hline
          have HSET := Lib.hid hset; have HLINE := Lib.hid hline; have HIXV := Lib.hid hixv; have HFR := Lib.hid hfr; have HGR := Lib.hid hgr; have HXR := Lib.hid hxr; have HSR := Lib.hid hsr; have HK6 := Lib.hid K6
          have hgl := hgr.lt
          clear hset hline hsb hsf hiv hixv hfr hgr hxr hsr K6
          go_upto_region 10 with (fail)
          go_cut [43] (fun s43 wx => s43 = .bool (decide (1 ≤ half ∧ half ≤ f.C)) ∧ wr = wx)
          case first =>
            rcases HHF.out with ⟨hh1, hh2⟩ | hh1 | ⟨hh1, hh2⟩
            all_goals
              go_wp2_with fail
              go_meet
              refine ⟨?_, rfl⟩
              first
              | (rw [decide_eq_true (show 1 ≤ half ∧ half ≤ f.C by omega)]; done)
              | (rw [decide_eq_false (show ¬ (1 ≤ half ∧ half ≤ f.C) by omega)]; done)
              | (rw [decide_eq_false (show ¬ half ≤ f.C by omega), decide_eq_false (show ¬ (1 ≤ half ∧ half ≤ f.C) by omega)]; done)
          case rest =>
          obtain ⟨rfl, rfl⟩ := hcut
          generalize hhb : decide (1 ≤ half ∧ half ≤ f.C) = hb
          have HHB := Lib.hid hhb
          clear hhb
          go_upto_if 43 with (fail)
          go_cut [8] (fun s8 wx => s8 = .int .i64 iv ∧ wr = wx)
          case first =>
            cases hb
            · go_wp2_with fail
              go_meet
              exact ⟨by rw [HIXV.out, if_neg (of_decide_eq_false HHB.out)], rfl⟩
            · obtain ⟨hh1, hh2⟩ := of_decide_eq_true HHB.out
              go_wp2_with fail
              go_meet
              exact ⟨by rw [HIXV.out, if_pos ⟨hh1, hh2⟩], rfl⟩
          case rest =>
            obtain ⟨rfl, rfl⟩ := hcut
            have KEEP : ∀ Y, Below wr.heap.size wr Y → (Y.cell? ⟨w.heap.size, 0, none⟩ = some (.int .i64 f.C) ∧ Y.cell? ⟨w.heap.size, 1, none⟩ = some (.slice A f.xs.length c) ∧ Y.cell? ⟨w.heap.size, 2, none⟩ = some (.int .i64 f.R) ∧ Y.cell? ⟨w.heap.size, 3, none⟩ = some (.int .i64 f.T)) ∧ (Y.cell? ⟨G, 0, none⟩ = some (.int .i64 f.C) ∧ Y.cell? ⟨G, 1, none⟩ = some (.slice B f.xs.length d) ∧ Y.cell? ⟨G, 2, none⟩ = some (.int .i64 0) ∧ Y.cell? ⟨G, 3, none⟩ = some (.int .i64 0)) ∧ Below wr.heap.size wr Y :=
              fun Y h => ⟨(HFR.out.below h HFR.out.lt).c4, (HGR.out.below h HGR.out.lt).c4, h⟩
            have HKEEP := Lib.hid KEEP
            clear KEEP r0 r1 r2 r3 s0 s1 s2 s3
            obtain ⟨r0, r1, r2, r3⟩ := HFR.out.c4
            obtain ⟨s0, s1, s2, s3⟩ := HGR.out.c4
            go_wp2_with fail
            go_cut [9, 10] (fun s9 s10 wx => ∃ (bq : Nat) (A6 : Option Addr) (c6 : Nat), s9 = .pointer (some ⟨bq, 0, none⟩) ∧ s10 = .bool true ∧ Bk wx bq 24 #[.int .i64 f.C, .slice A6 f.xs.length c6, .int .i64 0, .int .i64 0] ∧ SlArg wx A6 (lnS f half (m + 1)) c6 ∧ (∀ a, A6 = some a → wr.heap.size ≤ a.block) ∧ Below wr.heap.size wr wx)
            case first =>
              go_region_held3 (fun X => (X.cell? ⟨w.heap.size, 0, none⟩ = some (.int .i64 f.C) ∧ X.cell? ⟨w.heap.size, 1, none⟩ = some (.slice A f.xs.length c) ∧ X.cell? ⟨w.heap.size, 2, none⟩ = some (.int .i64 f.R) ∧ X.cell? ⟨w.heap.size, 3, none⟩ = some (.int .i64 f.T)) ∧ (X.cell? ⟨G, 0, none⟩ = some (.int .i64 f.C) ∧ X.cell? ⟨G, 1, none⟩ = some (.slice B f.xs.length d) ∧ X.cell? ⟨G, 2, none⟩ = some (.int .i64 0) ∧ X.cell? ⟨G, 3, none⟩ = some (.int .i64 0)) ∧ Below wr.heap.size wr X)
                ((refine HKEEP.out _ ?_; repeat (first | assumption | exact Below.refl _ _ | refine Below.allocs ?_ _ | refine Below.sets ?_ (by dsimp only; omega) _ | refine Below.drews ?_ | refine Below.chain ?_ (by assumption))))
                (first
                  | (go_at_call 25; ((with_reducible refine (HLINE.out _ (HXR.out.below (by repeat (first | assumption | exact Below.refl _ _ | refine Below.allocs ?_ _ | refine Below.sets ?_ (by dsimp only; omega) _ | refine Below.drews ?_ | refine Below.chain ?_ (by assumption))))).mono ?_); rintro e w5 ⟨⟨v, rfl, A5, c5, rfl, hs5, _⟩, hb5⟩); have hz5 : wr.heap.size ≤ w5.heap.size := Below.size (Below.chain (w := wr) (by repeat (first | assumption | exact Below.refl _ _ | refine Below.allocs ?_ _ | refine Below.sets ?_ (by dsimp only; omega) _ | refine Below.drews ?_ | refine Below.chain ?_ (by assumption))) hb5); (first | have bx := Bk.below (show Bk (wr.alloc (.cells #[.int .i64 0, .slice none 0 0, .int .i64 0, .int .i64 0] 24)).drew wr.heap.size 24 #[.int .i64 0, .slice none 0 0, .int .i64 0, .int .i64 0] from Bk.new wr _ _) hb5 (Bk.lt (show Bk (wr.alloc (.cells #[.int .i64 0, .slice none 0 0, .int .i64 0, .int .i64 0] 24)).drew wr.heap.size 24 #[.int .i64 0, .slice none 0 0, .int .i64 0, .int .i64 0] from Bk.new wr _ _)) | skip))
                  | (go_at_call 19; ((with_reducible refine (HSET.out _ A5 c5 (HSR.out.below (by repeat (first | assumption | exact Below.refl _ _ | refine Below.allocs ?_ _ | refine Below.sets ?_ (by dsimp only; omega) _ | refine Below.drews ?_ | refine Below.chain ?_ (by assumption)))) (hs5.below (by repeat (first | assumption | exact Below.refl _ _ | refine Below.allocs ?_ _ | refine Below.sets ?_ (by dsimp only; omega) _ | refine Below.drews ?_ | refine Below.chain ?_ (by assumption))))).mono ?_); rintro e w6 ⟨⟨v, rfl, A6, c6, rfl, hs6, hA6⟩, hb6⟩); unfold facV; rw [HLL.out]; (first | (have by6 := bx.below hb6 bx.lt; obtain ⟨⟨x0, x1, x2, x3⟩, y0, y1, y2, y3⟩ := by6.all4) | (have by6 := Bk.below (Bk.new w5 24 #[.int .i64 0, .slice none 0 0, .int .i64 0, .int .i64 0]) hb6 (Bk.new w5 24 #[.int .i64 0, .slice none 0 0, .int .i64 0, .int .i64 0]).lt; obtain ⟨⟨x0, x1, x2, x3⟩, y0, y1, y2, y3⟩ := by6.all4) | skip)))
              all_goals
                go_wp2_with fail
                go_meet
                refine ⟨_, A6, c6, rfl, rfl, ?_, ?_, ?_, ?_⟩
                · first
                  | exact (fac_box by6 _ _ _ _).1
                  | exact Bk.new _ _ _
                · first
                  | exact hs6.below ((Below.refl _ _).alloc (Nat.le_refl _) _)
                  | (refine (fac_box by6 _ _ _ _).2.2 _ _ _ hs6 (fun _ a ha => ?_)
                     rcases hA6 with h | h
                     · rw [h] at ha; cases ha
                     · have h2 := h a ha
                       first
                       | (have h3 := bx.lt; omega)
                       | (have h3 : w5.heap.size + 1 ≤ a.block := by
                            have h4 : (w5.alloc (.cells #[.int .i64 0, .slice none 0 0, .int .i64 0, .int .i64 0] 24)).heap.size ≤ a.block := h2
                            rwa [World.size_alloc] at h4
                          omega))
                · intro a ha
                  rcases hA6 with h | h
                  · rw [h] at ha; cases ha
                  · have h2 := h a ha
                    first
                    | exact Nat.le_trans hz5 h2
                    | (have h4 : (w5.alloc (.cells #[.int .i64 0, .slice none 0 0, .int .i64 0, .int .i64 0] 24)).heap.size ≤ a.block := h2
                       rw [World.size_alloc] at h4
                       omega)
                · repeat (first | assumption | exact Below.refl _ _ | refine Below.allocs ?_ _ | refine Below.sets ?_ (by dsimp only; omega) _ | refine Below.drews ?_ | refine Below.chain ?_ (by assumption))
            case rest =>
              obtain ⟨bq, A6, c6, rfl, rfl, hbx, hs6, hfar, hb9⟩ := hcut
              have hg9 := HGR.out.below hb9 HGR.out.lt
              have hf9 := HFR.out.below hb9 HFR.out.lt
              have hb10 := Below.chain HK6.out.below hb9
              have hgw : G < wr.heap.size := HGR.out.lt
              obtain ⟨p0, p1, p2, p3⟩ := hbx.c4
              obtain ⟨⟨x0, x1, x2, x3⟩, y0, y1, y2, y3⟩ := hg9.all4
              clear r0 r1 r2 r3 s0 s1 s2 s3 hbx
              go_wp2
              go_roundw
              case rel =>
                obtain ⟨u5, v5, z5⟩ := fac_box hg9 (.int .i64 f.C) (.slice A6 f.xs.length c6) (.int .i64 0) (.int .i64 0)
                exact ⟨m + 1, A6, c6, by go_num, by omega, bk_stored4 hf9 (by omega) _ _ _ _, u5, z5 _ _ _ hs6 (fun _ a ha => by have := hfar a ha; omega), v5 _ _ hb10 (by omega)⟩
              case measure => simp [intOf]; omega
        · have hmN : m = (f.C + 1).toNat := by omega
          subst hmN
          rw [lnS_all HOK.out] at hsr
          have hall := all_same B A f.xs d c wr hsr hxr
          have HALL := Lib.hid hall
          have HBR := Lib.hid K6.below
          clear hall hsr hxr K6 hfr hgr
          go_wp2_with fail
          refine HALL.out.mono ?_
          rintro e w5 ⟨rfl, n, rfl⟩
          have hbn := Below.drewNs HBR.out n
          go_wp2_with fail
          refine (live07 _).mono ?_
          rintro e w' ⟨rfl, hb⟩
          have HB := Lib.hid (Below.add hbn hb)
          clear hb
          go_wp2
          go_ret
          exact ⟨rfl, HB.out⟩

end Go.Proofs.Ytlenlacjonhicaa
