/- live of layer 7. -/
import Derived.Test.YtlenlacjonhicaaMd
import Derived.Deep.RegionHeld3
import Derived.Deep.DeepCutAuto
namespace Lev
def fN : Fct := ⟨2, [0, 0, 0, 0, 0, 0], 0, 0⟩
def gN : Fct := ⟨2, [0, 0, 0, 4617315517961601024, 13841813454723219456, 0], 0, 0⟩
theorem Fct.eq {f g : Fct} (h1 : f.C = g.C) (h2 : f.xs = g.xs) (h3 : f.R = g.R) (h4 : f.T = g.T) : f = g := by
  cases f; cases g; simp only at h1 h2 h3 h4; subst h1 h2 h3 h4; rfl
theorem lw1 : newE 2 = 0 := by decide +kernel
theorem lw2 : newS 2 = fN := Fct.eq (by decide +kernel) (by decide +kernel) (by decide +kernel) (by decide +kernel)
theorem lw3 : newE 7 = 1 := by decide +kernel
theorem lw4 : newS 7 = Fct.zero := Fct.eq (by decide +kernel) (by decide +kernel) (by decide +kernel) (by decide +kernel)
theorem lw5 : atI 2 1 2 = 4 := by decide +kernel
theorem lw6 : atB 2 1 2 = true := by decide +kernel
theorem lw7 : atI 2 2 1 = 0 := by decide +kernel
theorem lw8 : atB 2 2 1 = false := by decide +kernel
theorem lw9 : setB fN 1 [4621256167635550208, 4617315517961601024, 13841813454723219456] = true := by decide +kernel
theorem lw10 : setF fN 1 [4621256167635550208, 4617315517961601024, 13841813454723219456] = gN := Fct.eq (by decide +kernel) (by decide +kernel) (by decide +kernel) (by decide +kernel)
theorem lw11 : setB fN 1 [0, 13840687554816376832, 4618441417868443648] = false := by decide +kernel
theorem lw12 : setF fN 1 [0, 13840687554816376832, 4618441417868443648] = Fct.zero := Fct.eq (by decide +kernel) (by decide +kernel) (by decide +kernel) (by decide +kernel)
theorem lw13 : setB fN 1 [0, 9223372036854775808, 4618441417868443648] = false := by decide +kernel
theorem lw14 : setF fN 1 [0, 9223372036854775808, 4618441417868443648] = Fct.zero := Fct.eq (by decide +kernel) (by decide +kernel) (by decide +kernel) (by decide +kernel)
theorem lw15 : lineS gN 1 = [0, 4617315517961601024, 13841813454723219456] := by decide +kernel
theorem lw16 : getS gN 1 2 = 13841813454723219456 := by decide +kernel
theorem lw17 : getS gN 2 1 = 0 := by decide +kernel
theorem lw18 : checkS 2 fN.xs 0 0 = true := by decide +kernel
theorem lw19 : checkS 0 [] 0 0 = false := by decide +kernel
theorem lw20 : sizeI 2 = 6 := by decide +kernel
theorem lw21 : sizeI 0 = 0 := by decide +kernel
end Lev
namespace Go.Proofs.Ytlenlacjonhicaa
open Go.RowKit Go.Shelf Lev

attribute [local go_sem] order_lt order_gt order_eq order_ne flt_or_feq flt_or_feq'

theorem slice3 {W : World} {g : Nat} {t : TypeId} {x y z : Nat} (h : Bk W g t #[.float .f64 x, .float .f64 y, .float .f64 z]) (hx : x < 18446744073709551616) (hy : y < 18446744073709551616) (hz : z < 18446744073709551616) : SlArg W (some ⟨g, 0, none⟩) [x, y, z] 3 := by
  refine ⟨⟨fun u hu => ?_, fun _ => ⟨g, 0, rfl, h.lt, fun j hj => ?_⟩⟩, Nat.le_refl 3, by decide⟩
  · simp at hu; rcases hu with rfl | rfl | rfl <;> assumption
  · rw [Nat.zero_add, h.cell]
    have : j < 3 := hj
    rcases (by omega : j = 0 ∨ j = 1 ∨ j = 2) with rfl | rfl | rfl <;> rfl

set_option maxRecDepth 100000 in
set_option maxHeartbeats 1000000 in
theorem live07 (w : World) : Calls Try.prog 9 #[] w fun e w' => e = .returned (.bool true) ∧ Below w.heap.size w w' := by
  have h1 := fun W => new_any 2 W
  have h2 := fun W => new_any 7 W
  have h3 := fun W => at_any 2 1 2 W
  have h4 := fun W => at_any 2 2 1 W
  rw [lw1, lw2] at h1; rw [lw3, lw4] at h2; rw [lw5, lw6] at h3; rw [lw7, lw8] at h4
  have H1 := Lib.hid h1; have H2 := Lib.hid h2; have H3 := Lib.hid h3; have H4 := Lib.hid h4
  clear h1 h2 h3 h4
  go_enter Try.func9, Try.ntmps9
  go_wp2_with fail
  refine (H1.out w).mono ?_
  rintro e w1 ⟨⟨v, rfl, A1, c1, rfl, hs1, _⟩, hb1⟩
  have K1 := ((Keep.start w).call hb1).more hs1
  clear hb1 hs1
  unfold facV fN
  go_wp2_with fail
  refine named ?_
  intro W1 hW1
  have K2 := K1.alloc #[.int .i64 2, .slice A1 6 c1, .int .i64 0, .int .i64 0] 24
  rw [show w1.alloc _ = W1 from hW1.symm] at K2
  clear K1 hW1
  refine (H2.out W1).mono ?_
  rintro e w2 ⟨⟨v, rfl, A2, c2, rfl, hs2, _⟩, hb2⟩
  have K3 := K2.call hb2
  clear K2 hb2 hs2
  unfold facV Fct.zero
  obtain ⟨r0, r1, r2, r3⟩ := (K3.box (.head _)).c4
  have l1 := (K3.box (.head _)).lt
  have K4 := K3.alloc #[.int .i64 0, .slice A2 0 c2, .int .i64 0, .int .i64 0] 24
  clear K3
  go_wp2_with fail
  refine (H3.out _).mono ?_
  rintro e w' ⟨rfl, rfl⟩
  go_wp2_with fail
  refine (H4.out _).mono ?_
  rintro e w' ⟨rfl, rfl⟩
  go_wp2_with fail
  refine named ?_
  intro W2 hW2
  have K5 := K4.alloc #[.float .f64 4621256167635550208, .float .f64 4617315517961601024, .float .f64 13841813454723219456] 40
  rw [World.size_alloc, show (w2.alloc _).alloc _ = W2 from hW2.symm] at K5
  have K6 := K5.more (slice3 (K5.box (.head _)) (by decide) (by decide) (by decide))
  clear K4 K5 hW2 r0 r1 r2 r3 l1
  have h5 := set_any fN A1 c1 1 [4621256167635550208, 4617315517961601024, 13841813454723219456] (some ⟨w2.heap.size + 1, 0, none⟩) 3 W2 (K6.arg (.tail _ (.head _))) (K6.arg (.head _))
  rw [lw9, lw10] at h5
  refine h5.mono ?_
  clear h5
  rintro e w3 ⟨⟨v, rfl, A3, c3, rfl, hs3, _⟩, hb3⟩
  have K7 := (K6.call hb3).more hs3
  clear K6 hb3 hs3
  unfold facV gN
  obtain ⟨r0, r1, r2, r3⟩ := (K7.box (.tail _ (.tail _ (.head _)))).c4
  have l1 := (K7.box (.tail _ (.tail _ (.head _)))).lt
  have l2 : w1.heap.size < w3.heap.size + 1 := by omega
  go_wp2_with fail
  refine named ?_
  intro W3 hW3
  have K8 := (K7.alloc #[.int .i64 2, .slice A3 6 c3, .int .i64 0, .int .i64 0] 24).alloc #[.float .f64 0, .float .f64 13840687554816376832, .float .f64 4618441417868443648] 40
  rw [World.size_alloc, show (w3.alloc _).alloc _ = W3 from hW3.symm] at K8
  have K9 := K8.more (slice3 (K8.box (.head _)) (by decide) (by decide) (by decide))
  clear K7 K8 hW3 r0 r1 r2 r3 l1 l2
  have h6 := set_any fN A1 c1 1 [0, 13840687554816376832, 4618441417868443648] (some ⟨w3.heap.size + 1, 0, none⟩) 3 W3 (K9.arg (.tail _ (.tail _ (.tail _ (.head _))))) (K9.arg (.head _))
  rw [lw11, lw12] at h6
  refine h6.mono ?_
  clear h6
  rintro e w4 ⟨⟨v, rfl, A4, c4, rfl, hs4, _⟩, hb4⟩
  have K10 := K9.call hb4
  clear K9 hb4 hs4
  unfold facV Fct.zero
  go_wp2_with fail
  obtain ⟨W4, hW4⟩ : ∃ W4, W4 = w4.alloc (.cells #[.int .i64 0, .slice A4 0 c4, .int .i64 0, .int .i64 0] 24) := ⟨_, rfl⟩
  rw [← hW4]
  have K11 := K10.alloc #[.int .i64 0, .slice A4 0 c4, .int .i64 0, .int .i64 0] 24
  rw [← hW4] at K11
  clear K10 hW4
  have hfb := K11.box (.tail _ (.tail _ (.tail _ (.tail _ (.tail _ (.head _))))))
  have KEEP : ∀ X, Below W4.heap.size W4 X → (X.cell? ⟨w1.heap.size, 0, none⟩ = some (.int .i64 2) ∧ X.cell? ⟨w1.heap.size, 1, none⟩ = some (.slice A1 6 c1) ∧ X.cell? ⟨w1.heap.size, 2, none⟩ = some (.int .i64 0) ∧ X.cell? ⟨w1.heap.size, 3, none⟩ = some (.int .i64 0)) ∧ Below W4.heap.size W4 X :=
    fun X h => ⟨(hfb.below h hfb.lt).c4, h⟩
  have HKEEP := Lib.hid KEEP
  clear KEEP
  obtain ⟨r0, r1, r2, r3⟩ := hfb.c4
  have h8 := fun W => copysign_any 0 13830554455654793216 (by decide) (by decide) W
  rw [show D.word (sg 13830554455654793216) (rg 0) = 9223372036854775808 from by decide +kernel] at h8
  have Kc := (K11.alloc #[.float .f64 0, .float .f64 9223372036854775808, .float .f64 4618441417868443648] 40).drew
  have Kc := Kc.more (slice3 (Kc.box (.head _)) (by decide) (by decide) (by decide))
  have Kb := ((K11.alloc #[.float .f64 0, .float .f64 9223372036854775808, .float .f64 4618441417868443648] 40).alloc #[.int .i64 0, .slice none 0 0, .int .i64 0, .int .i64 0] 24).drew
  have Kb := Kb.more (slice3 (Kb.box (.tail _ (.head _))) (by decide) (by decide) (by decide))
  have Ka := ((K11.alloc #[.int .i64 0, .slice none 0 0, .int .i64 0, .int .i64 0] 24).alloc #[.float .f64 0, .float .f64 9223372036854775808, .float .f64 4618441417868443648] 40).drew
  have Ka := Ka.more (slice3 (Ka.box (.head _)) (by decide) (by decide) (by decide))
  rw [World.size_alloc] at Kb Ka
  have hc := set_any fN A1 c1 1 [0, 9223372036854775808, 4618441417868443648] (some ⟨W4.heap.size, 0, none⟩) 3 _ (Kc.arg (.tail _ (.tail _ (.tail _ (.tail _ (.head _)))))) (Kc.arg (.head _))
  have hb := set_any fN A1 c1 1 [0, 9223372036854775808, 4618441417868443648] (some ⟨W4.heap.size, 0, none⟩) 3 _ (Kb.arg (.tail _ (.tail _ (.tail _ (.tail _ (.head _)))))) (Kb.arg (.head _))
  have ha := set_any fN A1 c1 1 [0, 9223372036854775808, 4618441417868443648] (some ⟨W4.heap.size + 1, 0, none⟩) 3 _ (Ka.arg (.tail _ (.tail _ (.tail _ (.tail _ (.head _)))))) (Ka.arg (.head _))
  rw [lw13, lw14] at hc hb ha
  simp only [facV, fN, List.length_cons, List.length_nil, Nat.reduceAdd] at ha hb hc
  have bb := Kb.box (.head _)
  have ba := Ka.box (.tail _ (.head _))
  have HA := Lib.hid ha; have HB := Lib.hid hb; have HC := Lib.hid hc
  clear ha hb hc Ka Kb Kc
  go_cut [14] (fun s14 wx => s14 = .bool false ∧ Below W4.heap.size W4 wx)
  case first =>
    go_region_held3 (fun X => (X.cell? ⟨w1.heap.size, 0, none⟩ = some (.int .i64 2) ∧ X.cell? ⟨w1.heap.size, 1, none⟩ = some (.slice A1 6 c1) ∧ X.cell? ⟨w1.heap.size, 2, none⟩ = some (.int .i64 0) ∧ X.cell? ⟨w1.heap.size, 3, none⟩ = some (.int .i64 0)) ∧ Below W4.heap.size W4 X)
      ((refine HKEEP.out _ ?_; repeat (first | assumption | exact Below.refl _ _ | refine Below.allocs ?_ _ | refine Below.sets ?_ (by dsimp only; omega) _ | refine Below.drews ?_ | refine Below.chain ?_ hb5)))
      (first
        | (go_at_call 27; refine (h8 _).mono ?_; rintro e w' ⟨rfl, rfl⟩)
        | (go_at_call 19; ((with_reducible refine HC.out.mono ?_); rintro e w5 ⟨⟨v, rfl, A5, c5, rfl, hs5, _⟩, hb5⟩); unfold facV Fct.zero)
        | (go_at_call 19; ((with_reducible refine HB.out.mono ?_); rintro e w5 ⟨⟨v, rfl, A5, c5, rfl, hs5, _⟩, hb5⟩); unfold facV Fct.zero; obtain ⟨⟨x0, x1, x2, x3⟩, y0, y1, y2, y3⟩ := (bb.below hb5 bb.lt).all4)
        | (go_at_call 19; ((with_reducible refine HA.out.mono ?_); rintro e w5 ⟨⟨v, rfl, A5, c5, rfl, hs5, _⟩, hb5⟩); unfold facV Fct.zero; obtain ⟨⟨x0, x1, x2, x3⟩, y0, y1, y2, y3⟩ := (ba.below hb5 ba.lt).all4))
    all_goals
      go_wp2_with fail
      go_meet
      refine ⟨rfl, ?_⟩
      repeat (first | assumption | exact Below.refl _ _ | refine Below.allocs ?_ _ | refine Below.sets ?_ (by dsimp only; omega) _ | refine Below.drews ?_ | refine Below.chain ?_ hb5)
  case rest =>
    obtain ⟨rfl, hbc⟩ := hcut
    have K20 := K11.call hbc
    clear K11 hbc hfb
    obtain ⟨r0, r1, r2, r3⟩ := (K20.box (.tail _ (.tail _ (.head _)))).c4
    have h9 := line_any gN A3 c3 1 wc (K20.arg (.tail _ (.head _)))
    rw [lw15] at h9
    have H9 := Lib.hid h9
    clear h9
    unfold facV gN at H9
    go_wp2_with fail
    refine H9.out.mono ?_
    clear r0 r1 r2 r3
    rintro e w6 ⟨⟨v, rfl, A6, c6, rfl, hs6, _⟩, hb6⟩
    have K21 := (K20.call hb6).more hs6
    clear K20 hb6 hs6
    obtain ⟨r0, r1, r2, r3⟩ := (K21.box (.tail _ (.tail _ (.tail _ (.tail _ (.tail _ (.head _))))))).c4
    have h10 := fun W => size_any 2 W
    have h11 := fun W => size_any 0 W
    rw [lw20] at h10; rw [lw21] at h11
    have H10 := Lib.hid h10; have H11 := Lib.hid h11
    clear h10 h11
    have h12 := check_any 2 A1 fN.xs c1 0 0 w6 (K21.arg (.tail _ (.tail _ (.tail _ (.tail _ (.head _))))))
    rw [lw18] at h12
    have H12 := Lib.hid h12
    clear h12
    unfold facV fN at H12
    go_wp2_with fail
    refine (H10.out _).mono ?_
    rintro e w' ⟨rfl, rfl⟩
    go_wp2_with fail
    refine (H11.out _).mono ?_
    rintro e w' ⟨rfl, rfl⟩
    go_wp2_with fail
    refine H12.out.mono ?_
    clear r0 r1 r2 r3
    rintro e w7 ⟨rfl, hb7⟩
    have K22 := K21.call hb7
    clear K21 hb7
    obtain ⟨r0, r1, r2, r3⟩ := (K22.box (.tail _ (.tail _ (.head _)))).c4
    have h13 := get_any gN A3 c3 1 2 w7 (K22.arg (.tail _ (.tail _ (.head _))))
    rw [lw16] at h13
    have H13 := Lib.hid h13
    clear h13
    unfold facV gN at H13
    go_wp2_with fail
    refine H13.out.mono ?_
    clear r0 r1 r2 r3
    rintro e w8 ⟨rfl, hb8⟩
    have K23 := K22.call hb8
    clear K22 hb8
    obtain ⟨r0, r1, r2, r3⟩ := (K23.box (.tail _ (.tail _ (.head _)))).c4
    have h14 := get_any gN A3 c3 2 1 w8 (K23.arg (.tail _ (.tail _ (.head _))))
    rw [lw17] at h14
    have H14 := Lib.hid h14
    clear h14
    unfold facV gN at H14
    go_wp2_with fail
    refine H14.out.mono ?_
    clear r0 r1 r2 r3
    rintro e w9 ⟨rfl, hb9⟩
    have K24 := K23.call hb9
    clear K23 hb9
    obtain ⟨bl, off, rfl, _, hcl⟩ := (K24.arg (.head _)).reads.2 (by decide)
    have q0 := hcl 0 (by decide); have q1 := hcl 1 (by decide); have q2 := hcl 2 (by decide)
    simp only [List.getElem?_cons_zero, List.getElem?_cons_succ, Option.getD_some, Nat.add_zero] at q0 q1 q2
    have h15 := fun W => check_any 0 none [] 0 0 0 W ⟨FlR.nil _ _ _, Nat.le_refl _, by decide⟩
    rw [lw19] at h15
    have H15 := Lib.hid h15
    clear h15 hcl
    unfold facV at H15
    go_wp2_with fail
    refine (H15.out _).mono ?_
    rintro e wa ⟨rfl, hba⟩
    have K25 := K24.call hba
    clear hba q0 q1 q2
    go_wp2
    go_ret
    exact ⟨rfl, K25.below⟩

end Go.Proofs.Ytlenlacjonhicaa
