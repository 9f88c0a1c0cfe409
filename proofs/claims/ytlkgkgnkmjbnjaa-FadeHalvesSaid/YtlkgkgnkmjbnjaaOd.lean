/- The walk of FadeAll. -/
import Derived.Test.YtlkgkgnkmjbnjaaDk
import Derived.Test.YtlkgkgnkmjbnjaaDi
import Derived.Test.YtlkgkgnkmjbnjaaTd
import Derived.Test.YtlkgkgnkmjbnjaaMe
namespace Lev
theorem allG_len (f : Fct) (l : List Nat) : (allG f l).1.xs.length ≤ f.xs.length := by
  induction l generalizing f with
  | nil => exact Nat.le_refl _
  | cons b l ih =>
    rw [allG_cons]
    by_cases hE : oftenE f b 1 = 0
    · rw [if_pos hE]; exact Nat.le_trans (ih _) (oftenF_len f b 1)
    · rw [if_neg hE]; exact Nat.le_refl _
theorem allS_len (f : Fct) (l : List Nat) : (allS f l).1.xs.length ≤ f.xs.length := by
  unfold allS
  split
  · exact Nat.zero_le _
  · exact allG_len f l
end Lev
namespace Go.Proofs.Ytlkgkgnkmjbnjaa
open Go.RowKit Go.Shelf Lev

set_option maxRecDepth 100000 in
set_option maxHeartbeats 4000000 in
theorem fadeAll (f : Fct) (A : Option Addr) (c : Nat) (l : List Nat) (L : Option Addr) (cl : Nat) (cut : Int) (w : World) (hx : SlArg w A f.xs c) (hl : SlArg w L l cl) (_hk : -9223372036854775808 ≤ cut ∧ cut ≤ 9223372036854775807) :
    Calls Try.prog 4 #[facV f.C A f.xs.length c f.R f.T, .slice L l.length cl, .int .i64 cut] w fun e w' => e = .returned (.bool true) ∧ Below w.heap.size w w' := by
  have hl63 : f.xs.length ≤ 9223372036854775807 := Nat.le_trans hx.cap hx.room
  have hl64 : l.length ≤ 9223372036854775807 := Nat.le_trans hl.cap hl.room
  have hlc := hl.cap
  have hlr := hl.room
  have K0 := (((Keep.start w).more hl).more hx).alloc #[.int .i64 f.C, .slice A f.xs.length c, .int .i64 f.R, .int .i64 f.T] 24
  have HX := Lib.hid hx; have HL := Lib.hid hl
  clear hx hl
  unfold facV
  by_cases h60 : (60 : Int) < (f.xs.length : Int) ∨ (40 : Int) < (l.length : Int)
  · rcases (by omega : (60 : Int) < (f.xs.length : Int) ∨ (¬ (60 : Int) < (f.xs.length : Int) ∧ (40 : Int) < (l.length : Int))) with h1 | ⟨h1, h2⟩
    all_goals
      clear h60
      go_enter Try.func4, Try.ntmps4
      go_wp2_with fail
      refine (live12 _).mono ?_
      rintro e w' ⟨rfl, hb⟩
      have HB := Lib.hid (Below.add K0.below hb)
      clear hb
      go_wp2
      go_ret
      exact ⟨rfl, HB.out⟩
  · have h1 : ¬ (60 : Int) < (f.xs.length : Int) := fun h => h60 (.inl h)
    have h2 : ¬ (40 : Int) < (l.length : Int) := fun h => h60 (.inr h)
    have hll : l.length ≤ 1000 := by omega
    have hfa := fun W h h2 => fall_any f A c l L cl W h h2 hll
    have hra := fun W h h2 => rall_any f A c l L cl W h h2 hll
    unfold facV at hfa hra
    have HFA := Lib.hid hfa; have HRA := Lib.hid hra
    have HLEN := Lib.hid (allS_len f l)
    clear hfa hra h60
    generalize hr : allS f l = r at *
    have HR := Lib.hid hr
    clear hr
    go_enter Try.func4, Try.ntmps4
    go_wp2_with fail
    refine named ?_
    intro W hW
    rw [← hW] at K0
    clear hW
    refine (HFA.out _ (K0.arg (.head _)) (K0.arg (.tail _ (.head _)))).mono ?_
    rintro e w1 ⟨⟨v, rfl, A1, c1, rfl, hs1, _⟩, hb1⟩
    unfold facV
    have K1 := (K0.call hb1).more hs1
    clear K0 hb1 hs1
    obtain ⟨r0, r1, r2, r3⟩ := (K1.box (.head _)).c4
    have hlt1 := (K1.box (.head _)).lt
    go_wp2_with fail
    refine named ?_
    intro W1 hW1
    have K1 := K1.alloc #[.int .i64 r.1.C, .slice A1 r.1.xs.length c1, .int .i64 r.1.R, .int .i64 r.1.T] 24
    rw [← hW1] at K1
    clear hW1 r0 r1 r2 r3 hlt1
    refine (HRA.out _ (K1.arg (.tail _ (.head _))) (K1.arg (.tail _ (.tail _ (.head _))))).mono ?_
    rintro e w2 ⟨⟨v, rfl, A2, c2, rfl, hs2, _⟩, hb2⟩
    unfold facV
    have K2 := (K1.call hb2).more hs2
    clear K1 hb2 hs2
    obtain ⟨r0, r1, r2, r3⟩ := (K2.box (.head _)).c4
    have hlt1 := (K2.box (.head _)).lt
    go_wp2_with fail
    refine named ?_
    intro W2 hW2
    have K2 := K2.alloc #[.int .i64 r.1.C, .slice A2 r.1.xs.length c2, .int .i64 r.1.R, .int .i64 r.1.T] 24
    rw [← hW2] at K2
    clear hW2 r0 r1 r2 r3 hlt1
    have hsa := fac_same r.1 A1 A2 c1 c2 W2 (K2.arg (.tail _ (.head _))) (K2.arg (.head _))
    unfold facV at hsa
    refine hsa.mono ?_
    clear hsa
    rintro e w3 ⟨rfl, hb3⟩
    have K3 := K2.call hb3
    clear K2 hb3
    by_cases hd : r.2.1 = 0
    · by_cases hcut : 0 ≤ cut ∧ cut ≤ (l.length : Int)
      · obtain ⟨hc0, hc1⟩ := hcut
        obtain ⟨q, rfl⟩ := Int.eq_ofNat_of_zero_le hc0
        have hql : q ≤ l.length := by omega
        have hlaw := fadeAll_law (f := f) (l := l) (by rw [HR.out]; exact hd) hql
        obtain ⟨g1, g2, g3, g4, g5, g6⟩ := hlaw
        rw [HR.out] at g5
        have htl : (l.take q).length = q := by rw [List.length_take]; omega
        have hdl : (l.drop q).length = l.length - q := List.length_drop
        have h9 := fun W h h2 => fall_any f A c (l.take q) L cl W h h2 (by omega)
        have h10 := fun A3 c3 W h h2 => fall_any (allS f (l.take q)).1 A3 c3 (l.drop q) (cutA L cl q) (cl - q) W h h2 (by omega)
        rw [g1, g2, htl] at h9
        rw [g3, g4, g5, hdl] at h10
        have hle9 := allS_len f (l.take q)
        have hle10 := allS_len (allS f (l.take q)).1 (l.drop q)
        rw [g5] at hle10
        unfold facV at h9 h10
        have H9 := Lib.hid h9; have H10 := Lib.hid h10; have G6 := Lib.hid g6; have HL9 := Lib.hid hle9; have HL10 := Lib.hid hle10
        clear h9 h10 g1 g2 g3 g4 g5 g6 htl hdl hle9 hle10
        generalize (allS f (l.take q)).1 = P at *
        have hcl := fun w => run_cut_low L l.length cl q hql hl64 w
        have hch := fun w => run_cut_high L l.length cl q (by omega) hlr w
        have hdd : (r.2.1 != 0) = false := by rw [bne_eq_false_iff_eq]; exact hd
        have hq0 : (0 : Int) ≤ (q : Int) := by omega
        have HD := Lib.hid hd
        clear hd
        have bf := K3.box (.tail _ (.tail _ (.head _)))
        have hgf := (K3.arg (.tail _ (.tail _ (.head _)))).old (Nat.le_refl _)
        have hfar : 0 < P.xs.length → ∀ a, A = some a → a.block ≠ w3.heap.size := fun h => hgf (by have := HL9.out; omega)
        have HFAR := Lib.hid hfar
        have hax := K3.arg (.tail _ (.tail _ (.head _)))
        have hal := K3.arg (.tail _ (.tail _ (.tail _ (.head _))))
        have HAX := Lib.hid hax; have HAL := Lib.hid hal
        clear hgf hfar hax hal
        obtain ⟨r0, r1, r2, r3⟩ := bf.c4
        go_wp2_with fail

        have KEEP : ∀ Y, Below w3.heap.size w3 Y → (Y.cell? ⟨w.heap.size, 0, none⟩ = some (.int .i64 f.C) ∧ Y.cell? ⟨w.heap.size, 1, none⟩ = some (.slice A f.xs.length c) ∧ Y.cell? ⟨w.heap.size, 2, none⟩ = some (.int .i64 f.R) ∧ Y.cell? ⟨w.heap.size, 3, none⟩ = some (.int .i64 f.T)) ∧ Below w3.heap.size w3 Y :=
          fun Y h => ⟨(bf.below h bf.lt).c4, h⟩
        have HKEEP := Lib.hid KEEP
        clear KEEP
        go_cut [13, 14, 15] (fun s13 s14 s15 wx => ∃ (bq : Nat) (A4 : Option Addr) (c4 : Nat), s13 = .pointer (some ⟨bq, 0, none⟩) ∧ s14 = .int .i64 (q : Int) ∧ s15 = .int .i64 0 ∧ Bk wx bq 24 #[.int .i64 P.C, .slice A4 P.xs.length c4, .int .i64 P.R, .int .i64 P.T] ∧ SlArg wx A4 P.xs c4 ∧ Below w3.heap.size w3 wx)
        case first =>
          go_region_held3 (fun X => (X.cell? ⟨w.heap.size, 0, none⟩ = some (.int .i64 f.C) ∧ X.cell? ⟨w.heap.size, 1, none⟩ = some (.slice A f.xs.length c) ∧ X.cell? ⟨w.heap.size, 2, none⟩ = some (.int .i64 f.R) ∧ X.cell? ⟨w.heap.size, 3, none⟩ = some (.int .i64 f.T)) ∧ Below w3.heap.size w3 X)
            ((refine HKEEP.out _ ?_; repeat (first | assumption | exact Below.refl _ _ | refine Below.allocs ?_ _ | refine Below.sets ?_ (by dsimp only; omega) _ | refine Below.drews ?_ | refine Below.chain ?_ (by assumption))))
            (first
              | (go_at_call 20; ((with_reducible refine (H9.out _ (HAX.out.below (by repeat (first | assumption | exact Below.refl _ _ | refine Below.allocs ?_ _ | refine Below.sets ?_ (by dsimp only; omega) _ | refine Below.drews ?_ | refine Below.chain ?_ (by assumption)))) ((HAL.out.take hql).below (by repeat (first | assumption | exact Below.refl _ _ | refine Below.allocs ?_ _ | refine Below.sets ?_ (by dsimp only; omega) _ | refine Below.drews ?_ | refine Below.chain ?_ (by assumption))))).mono ?_); rintro e w5 ⟨⟨v, rfl, A4, c4, rfl, hs5, hA5⟩, hb5⟩); unfold facV; have hz5 : w3.heap.size ≤ w5.heap.size := Below.size (Below.chain (w := w3) (by repeat (first | assumption | exact Below.refl _ _ | refine Below.allocs ?_ _ | refine Below.sets ?_ (by dsimp only; omega) _ | refine Below.drews ?_ | refine Below.chain ?_ (by assumption))) hb5); (first | (have bx := Bk.below (show Bk (w3.alloc (.cells #[.int .i64 0, .slice none 0 0, .int .i64 0, .int .i64 0] 24)).drew w3.heap.size 24 #[.int .i64 0, .slice none 0 0, .int .i64 0, .int .i64 0] from Bk.new w3 _ _) hb5 (Bk.lt (show Bk (w3.alloc (.cells #[.int .i64 0, .slice none 0 0, .int .i64 0, .int .i64 0] 24)).drew w3.heap.size 24 #[.int .i64 0, .slice none 0 0, .int .i64 0, .int .i64 0] from Bk.new w3 _ _)); obtain ⟨⟨x0, x1, x2, x3⟩, y0, y1, y2, y3⟩ := bx.all4) | skip)))
          all_goals
            go_wp2_with fail
            go_meet
            refine ⟨_, A4, c4, rfl, rfl, rfl, ?_, ?_, ?_⟩
            · first
              | exact (fac_box bx _ _ _ _).1
              | exact Bk.new _ _ _
            · first
              | exact hs5.below ((Below.refl _ _).alloc (Nat.le_refl _) _)
              | (refine (fac_box bx _ _ _ _).2.2 _ _ _ hs5 (fun hl a ha => ?_)
                 rcases hA5 with h | h
                 · exact HFAR.out hl a (by rw [← h]; exact ha)
                 · have h2 := h a ha
                   have h3 : (w3.alloc (.cells #[.int .i64 0, .slice none 0 0, .int .i64 0, .int .i64 0] 24)).heap.size ≤ a.block := h2
                   rw [World.size_alloc] at h3
                   omega)
            · repeat (first | assumption | exact Below.refl _ _ | refine Below.allocs ?_ _ | refine Below.sets ?_ (by dsimp only; omega) _ | refine Below.drews ?_ | refine Below.chain ?_ (by assumption))
        case rest =>
        obtain ⟨bq, A4, c4, rfl, rfl, rfl, hbx, hs4, hb4⟩ := hcut
        have K4 := ((K3.call hb4).known hbx).more hs4
        clear K3 hbx hs4 hb4 HFAR HKEEP r0 r1 r2 r3 bf HAX
        have bf := K4.box (.head _)
        have hgf := (K4.arg (.head _)).old (Nat.le_refl _)
        have hfar : 0 < r.1.xs.length → ∀ a, A4 = some a → a.block ≠ wc.heap.size := fun h => hgf (by have := HL10.out; omega)
        have HFAR := Lib.hid hfar
        have hax := K4.arg (.head _)
        have HAX := Lib.hid hax
        have hal := K4.arg (.tail _ (.tail _ (.tail _ (.tail _ (.head _)))))
        have HAL := Lib.hid hal
        clear hgf hfar hax hal
        obtain ⟨r0, r1, r2, r3⟩ := bf.c4
        go_wp2_with fail

        have KEEP : ∀ Y, Below wc.heap.size wc Y → (Y.cell? ⟨bq, 0, none⟩ = some (.int .i64 P.C) ∧ Y.cell? ⟨bq, 1, none⟩ = some (.slice A4 P.xs.length c4) ∧ Y.cell? ⟨bq, 2, none⟩ = some (.int .i64 P.R) ∧ Y.cell? ⟨bq, 3, none⟩ = some (.int .i64 P.T)) ∧ Below wc.heap.size wc Y :=
          fun Y h => ⟨(bf.below h bf.lt).c4, h⟩
        have HKEEP := Lib.hid KEEP
        clear KEEP
        go_cut [16, 17, 18] (fun s16 s17 s18 wx => ∃ (bq : Nat) (A5 : Option Addr) (c5 : Nat), s16 = .pointer (some ⟨bq, 0, none⟩) ∧ s17 = .int .i64 ((l.length - q : Nat) : Int) ∧ s18 = .int .i64 0 ∧ Bk wx bq 24 #[.int .i64 r.1.C, .slice A5 r.1.xs.length c5, .int .i64 r.1.R, .int .i64 r.1.T] ∧ SlArg wx A5 r.1.xs c5 ∧ Below wc.heap.size wc wx)
        case first =>
          go_region_held3 (fun X => (X.cell? ⟨bq, 0, none⟩ = some (.int .i64 P.C) ∧ X.cell? ⟨bq, 1, none⟩ = some (.slice A4 P.xs.length c4) ∧ X.cell? ⟨bq, 2, none⟩ = some (.int .i64 P.R) ∧ X.cell? ⟨bq, 3, none⟩ = some (.int .i64 P.T)) ∧ Below wc.heap.size wc X)
            ((refine HKEEP.out _ ?_; repeat (first | assumption | exact Below.refl _ _ | refine Below.allocs ?_ _ | refine Below.sets ?_ (by dsimp only; omega) _ | refine Below.drews ?_ | refine Below.chain ?_ (by assumption))))
            (first
              | (go_at_call 20; ((with_reducible refine (H10.out A4 c4 _ (HAX.out.below (by repeat (first | assumption | exact Below.refl _ _ | refine Below.allocs ?_ _ | refine Below.sets ?_ (by dsimp only; omega) _ | refine Below.drews ?_ | refine Below.chain ?_ (by assumption)))) ((HAL.out.drop hql).below (by repeat (first | assumption | exact Below.refl _ _ | refine Below.allocs ?_ _ | refine Below.sets ?_ (by dsimp only; omega) _ | refine Below.drews ?_ | refine Below.chain ?_ (by assumption))))).mono ?_); rintro e w5 ⟨⟨v, rfl, A5, c5, rfl, hs5, hA5⟩, hb5⟩); unfold facV; have hz5 : wc.heap.size ≤ w5.heap.size := Below.size (Below.chain (w := wc) (by repeat (first | assumption | exact Below.refl _ _ | refine Below.allocs ?_ _ | refine Below.sets ?_ (by dsimp only; omega) _ | refine Below.drews ?_ | refine Below.chain ?_ (by assumption))) hb5); (first | (have bx := Bk.below (show Bk (wc.alloc (.cells #[.int .i64 0, .slice none 0 0, .int .i64 0, .int .i64 0] 24)).drew wc.heap.size 24 #[.int .i64 0, .slice none 0 0, .int .i64 0, .int .i64 0] from Bk.new wc _ _) hb5 (Bk.lt (show Bk (wc.alloc (.cells #[.int .i64 0, .slice none 0 0, .int .i64 0, .int .i64 0] 24)).drew wc.heap.size 24 #[.int .i64 0, .slice none 0 0, .int .i64 0, .int .i64 0] from Bk.new wc _ _)); obtain ⟨⟨x0, x1, x2, x3⟩, y0, y1, y2, y3⟩ := bx.all4) | skip)))
          all_goals
            go_wp2_with fail
            go_meet
            refine ⟨_, A5, c5, rfl, rfl, rfl, ?_, ?_, ?_⟩
            · first
              | exact (fac_box bx _ _ _ _).1
              | exact Bk.new _ _ _
            · first
              | exact hs5.below ((Below.refl _ _).alloc (Nat.le_refl _) _)
              | (refine (fac_box bx _ _ _ _).2.2 _ _ _ hs5 (fun hl a ha => ?_)
                 rcases hA5 with h | h
                 · exact HFAR.out hl a (by rw [← h]; exact ha)
                 · have h2 := h a ha
                   have h3 : (wc.alloc (.cells #[.int .i64 0, .slice none 0 0, .int .i64 0, .int .i64 0] 24)).heap.size ≤ a.block := h2
                   rw [World.size_alloc] at h3
                   omega)
            · repeat (first | assumption | exact Below.refl _ _ | refine Below.allocs ?_ _ | refine Below.sets ?_ (by dsimp only; omega) _ | refine Below.drews ?_ | refine Below.chain ?_ (by assumption))
        case rest =>
        obtain ⟨bq2, A5, c5, rfl, rfl, rfl, hbx, hs5, hb5⟩ := hcut
        have K5 := ((K4.call hb5).known hbx).more hs5
        clear K4 hbx hs5 hb5 HFAR HKEEP r0 r1 r2 r3 bf HAX HAL
        have hsum : ((q : Int) + ((l.length - q : Nat) : Int) != (l.length : Int)) = false := by rw [bne_eq_false_iff_eq]; omega
        obtain ⟨r0, r1, r2, r3⟩ := (K5.box (.head _)).c4
        obtain ⟨s0, s1, s2, s3⟩ := (K5.box (.tail _ (.tail _ (.tail _ (.head _))))).c4
        have hsum2 : ((q : Int) + ((l.length - q : Nat) : Int)) ≤ 100 := by omega
        go_wp2_with fail
        have hsa := fac_same r.1 A5 A1 c5 c1 wc (K5.arg (.head _)) (K5.arg (.tail _ (.tail _ (.tail _ (.head _)))))
        unfold facV at hsa
        refine hsa.mono ?_
        clear hsa r0 r1 r2 r3 s0 s1 s2 s3
        rintro e w6 ⟨rfl, hb6⟩
        have K6 := K5.call hb6
        clear K5 hb6 hcl hch hsum hsum2 hdd
        by_cases hz : l.length = 0
        · have hz1 : ((l.length : Int) == 0) = true := by rw [beq_iff_eq]; omega
          go_wp2_with fail
          refine (live12 _).mono ?_
          rintro e w' ⟨rfl, hb⟩
          have HB := Lib.hid (Below.add K6.below hb)
          clear hb
          go_wp2
          go_ret
          exact ⟨rfl, HB.out⟩
        · have hz1 : ((l.length : Int) == 0) = false := by rw [beq_eq_false_iff_ne]; omega
          have hpos : 0 < l.length := by omega
          obtain ⟨bl, off, e1, e2, e3⟩ := (K6.arg (.tail _ (.tail _ (.tail _ (.tail _ (.tail _ (.head _))))))).reads.2 hpos
          have hdrop : l = l[0]?.getD 0 :: l.drop 1 := by
            have h5 := List.drop_eq_getElem_cons (l := l) (i := 0) hpos
            rw [List.getElem?_eq_getElem hpos]
            simpa using h5
          obtain ⟨g6, g7⟩ := G6.out _ _ hdrop
          have hc0 := e3 0 hpos
          rw [Nat.add_zero] at hc0
          have hb64 : l[0]?.getD 0 < 18446744073709551616 := HL.out.reads.lt 0
          generalize l[0]?.getD 0 = b at *
          subst e1
          have hxl : (oftenF f b (l.length : Int)).xs.length ≤ f.xs.length := oftenF_len f b _
          have HXL := Lib.hid hxl
          have h11 := fun A7 c7 W h h2 => fall_any f A c (List.replicate l.length b) A7 c7 W h h2 (by rw [List.length_replicate]; omega)
          rw [g6, List.length_replicate] at h11
          have h12 := fun W h => often_any f A c b (l.length : Int) W h
          rw [g7] at h12
          unfold facV at h11 h12
          dsimp only at h11
          have H11 := Lib.hid h11; have H12 := Lib.hid h12; have HC0 := Lib.hid hc0; have HB64 := Lib.hid hb64
          obtain ⟨i0, hi, hz0, hzs, hzb⟩ := info_parts info_f64
          have hmk := fun w => run_make (P := Try.prog) w 22 25 i0 (.float .f64 0) Try.underlying22 hi hz0 .i64 .i64 0 (l.length : Int) (by omega) (by omega) (by rw [hzb]; omega) (by omega)
          have hcc : (Value.float .f64 0).cells = #[.float .f64 0] := rfl
          rw [hcc, hzs, Int.toNat_natCast, Nat.mul_one, Int.toNat_zero] at hmk
          clear h11 h12 g6 g7 hxl hcc e3 hdrop hc0 hb64
          generalize oftenF f b (l.length : Int) = Q at *
          go_wp2_with fail
          obtain ⟨X, hX⟩ : ∃ X, X = w6.alloc (.cells (madeCells #[.float .f64 0] l.length) 25) := ⟨_, rfl⟩
          have hown := World.ownsRow_made (e := 25) (size := 1) (base := w6.heap.size) w6 (madeCells #[.float .f64 0] l.length) l.length (Nat.le_refl _) (by unfold maxLen; omega) (by rw [size_madeCells, Nat.mul_one])
          have hbX := (Below.refl w6.heap.size w6).alloc (Nat.le_refl _) (.cells (madeCells #[.float .f64 0] l.length) 25)
          rw [← hX] at hown hbX ⊢
          clear hX hmk
          go_loopw [19, 20] (fun v i wr => ∃ k : Nat, k ≤ l.length ∧ i = .int .i64 (k : Int) ∧ wr.ownsRow w6.heap.size 25 1 v k (List.replicate k (.float .f64 b)) ∧ Below w6.heap.size w6 wr) (fun _ i _ => l.length - (intOf i).toNat)
          case atStart => exact ⟨0, Nat.zero_le _, rfl, hown, hbX⟩
          case round =>
            obtain ⟨k, hk, rfl, hownk, hbk⟩ := hrel
            clear hown hbX
            have hcell : wr.cell? ⟨bl, off, none⟩ = some (.float .f64 b) := (hbk.cell (p := ⟨bl, off, none⟩) e2).trans HC0.out
            have hsz := hbk.size
            by_cases hlt : (k : Int) < (l.length : Int)
            · have hpi : (0 : Int) < (l.length : Int) := by omega
              have hrep : List.replicate (k + 1) (Value.float .f64 b) = List.replicate k (.float .f64 b) ++ [.float .f64 b] := List.replicate_succ'
              have HREP := Lib.hid hrep
              clear hrep
              go_wp2_with (at_builtin; refine wpList_append_own _ rfl _ _ 22 rfl w6.heap.size 25 i0 (.float .f64 0) 1 8 Try.underlying22 hi hz0 hzs hzb rfl (by decide) _ _ _ rfl (hownk.alloc _) ⟨wr.heap.size, 0, none⟩ 1 1 [.float .f64 b] rfl rfl (cell_one_new _ _ _) (by simp [Value.oneCell']) (by unfold maxLen; omega) (by omega) (by simp; omega) ?_; intro v' w7 hown' hgrow _)
              go_roundw
              case rel => exact ⟨k + 1, by omega, by go_num, by rw [HREP.out]; exact hown', (hbk.alloc hsz _).grown hgrow (by simp; omega) (own_from hownk)⟩
              case measure => simp [intOf]; omega
            · obtain rfl : k = l.length := by omega
              have hmd := hownk
              rw [← List.map_replicate, ← List.length_replicate (n := l.length) (a := b)] at hmd
              rw [List.length_replicate] at hmd
              have hmd2 : wr.ownsRow w6.heap.size 25 1 u19 (List.replicate l.length b).length ((List.replicate l.length b).map (Value.float .f64)) := by rw [List.length_replicate]; exact hmd
              have hmade := made_of_own hmd2 (fun y hy => by rw [List.mem_replicate] at hy; rw [hy.2]; exact HB64.out)
              obtain ⟨A7, c7, rfl, hs7, _⟩ := hmade
              rw [List.length_replicate]
              have K7 := (K6.call hbk).more hs7
              have hcw := hcell
              clear K6 hbk hownk hmd hmd2 hs7 hcell
              obtain ⟨r0, r1, r2, r3⟩ := (K7.box (.tail _ (.tail _ (.tail _ (.tail _ (.head _)))))).c4
              go_wp2_with fail
              refine (H11.out A7 c7 _ (K7.arg (.tail _ (.tail _ (.tail _ (.tail _ (.tail _ (.head _))))))) (K7.arg (.head _))).mono ?_
              clear r0 r1 r2 r3
              rintro e w8 ⟨⟨v, rfl, A8, c8, rfl, hs8, _⟩, hb8⟩
              unfold facV
              have hblw := Nat.lt_of_lt_of_le (Nat.lt_of_lt_of_le e2 hsz) hb8.size
              have hcl8 : w8.cell? ⟨bl, off, none⟩ = some (.float .f64 b) := (hb8.cell (p := ⟨bl, off, none⟩) (Nat.lt_of_lt_of_le e2 hsz)).trans hcw
              have K8 := ((K7.call hb8).more hs8).alloc #[.int .i64 Q.C, .slice A8 Q.xs.length c8, .int .i64 Q.R, .int .i64 Q.T] 24
              clear K7 hb8 hs8
              go_wp2_with fail
              obtain ⟨Z, hZ⟩ : ∃ Z, Z = w8.alloc (.cells #[.int .i64 Q.C, .slice A8 Q.xs.length c8, .int .i64 Q.R, .int .i64 Q.T] 24) := ⟨_, rfl⟩
              have hcZ : Z.cell? ⟨bl, off, none⟩ = some (.float .f64 b) := by rw [hZ, World.cell?_alloc_lt _ _ _ hblw]; exact hcl8
              have hblZ : bl < Z.heap.size := by rw [hZ, World.size_alloc]; omega
              rw [← hZ] at K8 ⊢
              clear hZ hcl8
              have bf := K8.box (.tail _ (.tail _ (.tail _ (.tail _ (.tail _ (.head _))))))
              have hgf := (K8.arg (.tail _ (.tail _ (.tail _ (.tail _ (.tail _ (.tail _ (.head _)))))))).old (Nat.le_refl _)
              have hfar : 0 < Q.xs.length → ∀ a, A = some a → a.block ≠ Z.heap.size := fun h => hgf (by have := HXL.out; omega)
              have HFAR := Lib.hid hfar
              have hax := K8.arg (.tail _ (.tail _ (.tail _ (.tail _ (.tail _ (.tail _ (.head _)))))))
              have HAX := Lib.hid hax
              have hpi : (0 : Int) < (l.length : Int) := by omega
              clear hgf hfar hax
              obtain ⟨r0, r1, r2, r3⟩ := bf.c4

              have KEEP : ∀ Y, Below Z.heap.size Z Y → (Y.cell? ⟨w.heap.size, 0, none⟩ = some (.int .i64 f.C) ∧ Y.cell? ⟨w.heap.size, 1, none⟩ = some (.slice A f.xs.length c) ∧ Y.cell? ⟨w.heap.size, 2, none⟩ = some (.int .i64 f.R) ∧ Y.cell? ⟨w.heap.size, 3, none⟩ = some (.int .i64 f.T)) ∧ Y.cell? ⟨bl, off, none⟩ = some (.float .f64 b) ∧ Below Z.heap.size Z Y :=
                fun Y h => ⟨(bf.below h bf.lt).c4, (h.cell (p := ⟨bl, off, none⟩) hblZ).trans hcZ, h⟩
              have HKEEP := Lib.hid KEEP
              clear KEEP
              go_cut [24, 25] (fun s24 s25 wx => ∃ (bq : Nat) (A9 : Option Addr) (c9 : Nat), s24 = .pointer (some ⟨bq, 0, none⟩) ∧ s25 = .int .i64 0 ∧ Bk wx bq 24 #[.int .i64 Q.C, .slice A9 Q.xs.length c9, .int .i64 Q.R, .int .i64 Q.T] ∧ SlArg wx A9 Q.xs c9 ∧ Below Z.heap.size Z wx)
              case first =>
                go_region_held3 (fun X => (X.cell? ⟨w.heap.size, 0, none⟩ = some (.int .i64 f.C) ∧ X.cell? ⟨w.heap.size, 1, none⟩ = some (.slice A f.xs.length c) ∧ X.cell? ⟨w.heap.size, 2, none⟩ = some (.int .i64 f.R) ∧ X.cell? ⟨w.heap.size, 3, none⟩ = some (.int .i64 f.T)) ∧ X.cell? ⟨bl, off, none⟩ = some (.float .f64 b) ∧ Below Z.heap.size Z X)
                  ((refine HKEEP.out _ ?_; repeat (first | assumption | exact Below.refl _ _ | refine Below.allocs ?_ _ | refine Below.sets ?_ (by dsimp only; omega) _ | refine Below.drews ?_ | refine Below.chain ?_ (by assumption))))
                  (first
                    | (go_at_call 15; ((with_reducible refine (H12.out _ (HAX.out.below (by repeat (first | assumption | exact Below.refl _ _ | refine Below.allocs ?_ _ | refine Below.sets ?_ (by dsimp only; omega) _ | refine Below.drews ?_ | refine Below.chain ?_ (by assumption))))).mono ?_); rintro e w5 ⟨⟨v, rfl, A9, c9, rfl, hs5, hA5⟩, hb5⟩); unfold facV; have hz5 : Z.heap.size ≤ w5.heap.size := Below.size (Below.chain (w := Z) (by repeat (first | assumption | exact Below.refl _ _ | refine Below.allocs ?_ _ | refine Below.sets ?_ (by dsimp only; omega) _ | refine Below.drews ?_ | refine Below.chain ?_ (by assumption))) hb5); (first | (have bx := Bk.below (show Bk (Z.alloc (.cells #[.int .i64 0, .slice none 0 0, .int .i64 0, .int .i64 0] 24)).drew Z.heap.size 24 #[.int .i64 0, .slice none 0 0, .int .i64 0, .int .i64 0] from Bk.new Z _ _) hb5 (Bk.lt (show Bk (Z.alloc (.cells #[.int .i64 0, .slice none 0 0, .int .i64 0, .int .i64 0] 24)).drew Z.heap.size 24 #[.int .i64 0, .slice none 0 0, .int .i64 0, .int .i64 0] from Bk.new Z _ _)); obtain ⟨⟨x0, x1, x2, x3⟩, y0, y1, y2, y3⟩ := bx.all4) | skip)))
                all_goals
                  go_wp2_with fail
                  go_meet
                  refine ⟨_, A9, c9, rfl, rfl, ?_, ?_, ?_⟩
                  · first
                    | exact (fac_box bx _ _ _ _).1
                    | exact Bk.new _ _ _
                  · first
                    | exact hs5.below ((Below.refl _ _).alloc (Nat.le_refl _) _)
                    | (refine (fac_box bx _ _ _ _).2.2 _ _ _ hs5 (fun hl a ha => ?_)
                       rcases hA5 with h | h
                       · exact HFAR.out hl a (by rw [← h]; exact ha)
                       · have h2 := h a ha
                         have h3 : (Z.alloc (.cells #[.int .i64 0, .slice none 0 0, .int .i64 0, .int .i64 0] 24)).heap.size ≤ a.block := h2
                         rw [World.size_alloc] at h3
                         omega)
                  · repeat (first | assumption | exact Below.refl _ _ | refine Below.allocs ?_ _ | refine Below.sets ?_ (by dsimp only; omega) _ | refine Below.drews ?_ | refine Below.chain ?_ (by assumption))
              case rest =>
              obtain ⟨bq3, A9, c9, rfl, rfl, hbx, hs9, hb9⟩ := hcut
              have K9 := ((K8.call hb9).known hbx).more hs9
              clear K8 hbx hs9 hb9 HFAR HKEEP r0 r1 r2 r3 bf HAX
              obtain ⟨r0, r1, r2, r3⟩ := (K9.box (.head _)).c4
              obtain ⟨s0, s1, s2, s3⟩ := (K9.box (.tail _ (.head _))).c4
              go_wp2_with fail
              have hsa := fac_same Q A8 A9 c8 c9 wc (K9.arg (.tail _ (.head _))) (K9.arg (.head _))
              unfold facV at hsa
              refine hsa.mono ?_
              clear hsa r0 r1 r2 r3 s0 s1 s2 s3
              rintro e wa ⟨rfl, hba⟩
              have K10 := K9.call hba
              clear K9 hba
              go_wp2_with fail
              refine (live12 _).mono ?_
              rintro e w' ⟨rfl, hb⟩
              have HB := Lib.hid (Below.add K10.below hb)
              clear hb
              go_wp2
              go_ret
              exact ⟨rfl, HB.out⟩
      · have hdd : (r.2.1 != 0) = false := by rw [bne_eq_false_iff_eq]; exact hd
        have hcs : cut < 0 ∨ (¬ cut < 0 ∧ (l.length : Int) < cut) := by omega
        clear hd hcut
        rcases hcs with a1 | ⟨a1, a2⟩
        all_goals
          go_wp2_with fail
          refine (live12 _).mono ?_
          rintro e w' ⟨rfl, hb⟩
          have HB := Lib.hid (Below.add K3.below hb)
          clear hb
          go_wp2
          go_ret
          exact ⟨rfl, HB.out⟩
    · have hdd : (r.2.1 != 0) = true := by rw [bne_iff_ne]; exact hd
      clear hd
      go_wp2_with fail
      refine (live12 _).mono ?_
      rintro e w' ⟨rfl, hb⟩
      have HB := Lib.hid (Below.add K3.below hb)
      clear hb
      go_wp2
      go_ret
      exact ⟨rfl, HB.out⟩

end Go.Proofs.Ytlkgkgnkmjbnjaa
