/- Walks of the laws GivensTells, GivensLowers. -/
import Derived.Test.YtcoaachajdomcaaHi
import Derived.Test.YtcoaachajdomcaaMf
set_option linter.unusedVariables false
namespace Lev
theorem ofT_form (f g : Nat) : ∃ x y r b, ofT f g = .tuple #[.float .f64 x, .float .f64 y, .float .f64 r, .bool b] ∧ x < 18446744073709551616 ∧ y < 18446744073709551616 ∧ r < 18446744073709551616 := by
  unfold ofT
  split
  · split
    · exact ⟨_, _, _, _, rfl, by decide, by decide, by decide⟩
    · split
      · rename_i h1 h2 h3
        obtain ⟨a1, a2, _, _, _, _, _, _, _, d1, d2⟩ := rot_facts h1.1 h1.2 h2
        refine ⟨_, _, _, _, rfl, ?_, ?_, (rotR_le f g).2⟩
        · have := Go.floatBits_wf (op := .quo) (k := .f64) d1
          simpa [Go.Lit.wf] using this
        · have := Go.floatBits_wf (op := .quo) (k := .f64) d2
          simpa [Go.Lit.wf] using this
      · exact ⟨_, _, _, _, rfl, by decide, by decide, by decide⟩
  · exact ⟨_, _, _, _, rfl, by decide, by decide, by decide⟩
theorem hypT_form (f g : Nat) : ∃ x y b, hypT f g = .tuple #[.float .f64 x, .float .f64 y, .bool b] ∧ x < 18446744073709551616 ∧ y < 18446744073709551616 := by
  unfold hypT
  split
  · split
    · exact ⟨_, _, _, rfl, by decide, by decide⟩
    · split
      · rename_i h1 h2 h3
        unfold hypB at h3
        rw [decide_eq_true_eq] at h3
        have hs := hypS_spec h1.1 h1.2 h3.1
        have hf := hyp_facts h3.2
        exact ⟨_, _, _, rfl, (sqrt_ok hf.2.2.2.2.1 hf.2.2.2.2.2).2.2.1, hs.2.1⟩
      · exact ⟨_, _, _, rfl, by decide, by decide⟩
  · exact ⟨_, _, _, rfl, by decide, by decide⟩
theorem sameS_cn {a b : Nat} (h : cn a = cn b) : sameS a b = true := by unfold sameS; rw [h]; exact beq_self_eq_true _
end Lev
namespace Go.Proofs.Ytcoaachajdomcaa
open Go.RowKit Go.Shelf Lev

theorem rsame_yes (a b : Nat) (ha : a < 18446744073709551616) (hb : b < 18446744073709551616) (h : cn a = cn b) (w : World) :
    Calls Try.prog 17 #[.float .f64 a, .float .f64 b] w fun e w' => e = .returned (.bool true) ∧ w = w' := by
  rw [← sameS_cn h]; exact rsame_any a b ha hb w

set_option maxRecDepth 100000 in
set_option maxHeartbeats 2000000 in
theorem gtells_any (a b c d : Nat) (w : World) (hab : a < 18446744073709551616 ∧ b < 18446744073709551616) (hcd : c < 18446744073709551616 ∧ d < 18446744073709551616) :
    Calls Try.prog 5 #[.agg #[.float .f64 a, .float .f64 b], .agg #[.float .f64 c, .float .f64 d]] w fun e w' => e = .returned (.bool true) ∧ Below w.heap.size w w' := by
  obtain ⟨x, y, r, bo, hT, hx, hy, hr⟩ := ofT_form a b
  have HG := Lib.hid (fun W => gof_any a b hab.1 hab.2 W)
  have HR := Lib.hid (fun W => rof_any a b hab.1 hab.2 W)
  rw [hT] at HG HR
  have HX := Lib.hid (fun W => rsame_yes x x hx hx rfl W)
  have HY := Lib.hid (fun W => rsame_yes y y hy hy rfl W)
  have HRR := Lib.hid (fun W => rsame_yes r r hr hr rfl W)
  have HL := Lib.hid (fun W => live06 W)
  clear hT hx hy hr hab hcd
  go_enter Try.func5, Try.ntmps5
  go_wp2_with fail
  obtain ⟨W, hW⟩ : ∃ W, W = (w.alloc (.cells #[.float .f64 a, .float .f64 b] 35)).alloc (.cells #[.float .f64 c, .float .f64 d] 35) := ⟨_, rfl⟩
  obtain ⟨b1, b2, hb, _⟩ := boxes2 hW
  rw [← hW]
  obtain ⟨c0, c1⟩ := b1.c2'
  obtain ⟨c2, c3⟩ := b2.c2'
  have B0 := Lib.hid hb
  clear hW b1 b2 hb
  go_quiet (fail)
  go_wp2_with fail
  refine (HG.out _).mono ?_
  rintro e w1 ⟨rfl, hb1⟩
  have B1 := Lib.hid (Below.chain (B0.out.drewN nq) hb1)
  clear hb1 B0
  go_wp2_with fail
  refine (HR.out _).mono ?_
  rintro e w' ⟨rfl, rfl⟩
  go_wp2_with fail
  refine (gturn_any a b c d w1).mono ?_
  rintro e w2 ⟨⟨u, v, rfl, e1, e2, l1, l2⟩, hb2⟩
  have B2 := Lib.hid (Below.chain B1.out hb2)
  clear hb2 B1
  have E1 := Lib.hid e1; have E2 := Lib.hid e2; have L1 := Lib.hid l1; have L2 := Lib.hid l2
  clear e1 e2 l1 l2
  go_wp2_with fail
  refine (rturn_any a b c d w2).mono ?_
  rintro e w' ⟨⟨u2, v2, rfl, e3, e4, l3, l4⟩, n, rfl⟩
  have HU := Lib.hid (fun W => rsame_yes u u2 L1.out l3 (E1.out.trans e3.symm) W)
  have HV := Lib.hid (fun W => rsame_yes v v2 L2.out l4 (E2.out.trans e4.symm) W)
  clear e3 e4 l3 l4 E1 E2 L1 L2
  have B3 := Lib.hid (B2.out.drewN n)
  clear B2
  go_wp2_with fail
  refine (HX.out _).mono ?_
  rintro e w' ⟨rfl, rfl⟩
  go_wp2_with fail
  refine (HY.out _).mono ?_
  rintro e w' ⟨rfl, rfl⟩
  go_wp2_with fail
  refine (HRR.out _).mono ?_
  rintro e w' ⟨rfl, rfl⟩
  go_wp2_with fail
  refine (HU.out _).mono ?_
  rintro e w' ⟨rfl, rfl⟩
  go_wp2_with fail
  refine (HV.out _).mono ?_
  rintro e w' ⟨rfl, rfl⟩
  go_wp2_with fail
  refine (HL.out _).mono ?_
  rintro e w4 ⟨rfl, hb4⟩
  have B4 := Lib.hid (Below.chain B3.out hb4)
  clear hb4 B3
  go_wp2
  go_ret
  exact ⟨rfl, B4.out⟩

set_option maxRecDepth 100000 in
set_option maxHeartbeats 2000000 in
theorem glowers_any (a b c d : Nat) (w : World) (hab : a < 18446744073709551616 ∧ b < 18446744073709551616) (hcd : c < 18446744073709551616 ∧ d < 18446744073709551616) :
    Calls Try.prog 6 #[.agg #[.float .f64 a, .float .f64 b], .agg #[.float .f64 c, .float .f64 d]] w fun e w' => e = .returned (.bool true) ∧ Below w.heap.size w w' := by
  obtain ⟨x, y, bo, hT, hx, hy⟩ := hypT_form a b
  have HG := Lib.hid (fun W => ghyper_any a b hab.1 hab.2 W)
  have HR := Lib.hid (fun W => rhyper_any a b hab.1 hab.2 W)
  rw [hT] at HG HR
  have HX := Lib.hid (fun W => rsame_yes x x hx hx rfl W)
  have HY := Lib.hid (fun W => rsame_yes y y hy hy rfl W)
  have HL := Lib.hid (fun W => live06 W)
  clear hT hx hy hab hcd
  go_enter Try.func6, Try.ntmps6
  go_wp2_with fail
  obtain ⟨W, hW⟩ : ∃ W, W = (w.alloc (.cells #[.float .f64 a, .float .f64 b] 35)).alloc (.cells #[.float .f64 c, .float .f64 d] 35) := ⟨_, rfl⟩
  obtain ⟨b1, b2, hb, _⟩ := boxes2 hW
  rw [← hW]
  obtain ⟨c0, c1⟩ := b1.c2'
  obtain ⟨c2, c3⟩ := b2.c2'
  have B0 := Lib.hid hb
  clear hW b1 b2 hb
  go_quiet (fail)
  go_wp2_with fail
  refine (HG.out _).mono ?_
  rintro e w1 ⟨rfl, hb1⟩
  have B1 := Lib.hid (Below.chain (B0.out.drewN nq) hb1)
  clear hb1 B0
  go_wp2_with fail
  refine (HR.out _).mono ?_
  rintro e w' ⟨rfl, rfl⟩
  go_wp2_with fail
  refine (gdown_any a b c d w1).mono ?_
  rintro e w2 ⟨⟨u, v, rfl, e1, e2, l1, l2⟩, n2, rfl⟩
  have B2 := Lib.hid (B1.out.drewN n2)
  clear B1
  have E1 := Lib.hid e1; have E2 := Lib.hid e2; have L1 := Lib.hid l1; have L2 := Lib.hid l2
  clear e1 e2 l1 l2
  go_wp2_with fail
  refine (rdown_any a b c d _).mono ?_
  rintro e w' ⟨⟨u2, v2, rfl, e3, e4, l3, l4⟩, n, rfl⟩
  have HU := Lib.hid (fun W => rsame_yes u u2 L1.out l3 (E1.out.trans e3.symm) W)
  have HV := Lib.hid (fun W => rsame_yes v v2 L2.out l4 (E2.out.trans e4.symm) W)
  clear e3 e4 l3 l4 E1 E2 L1 L2
  have b3 := B2.out.drewN n
  rw [World.drewN_drewN] at b3
  have B3 := Lib.hid b3
  clear b3
  clear B2
  go_wp2_with fail
  refine (HX.out _).mono ?_
  rintro e w' ⟨rfl, rfl⟩
  go_wp2_with fail
  refine (HY.out _).mono ?_
  rintro e w' ⟨rfl, rfl⟩
  go_wp2_with fail
  refine (HU.out _).mono ?_
  rintro e w' ⟨rfl, rfl⟩
  go_wp2_with fail
  refine (HV.out _).mono ?_
  rintro e w' ⟨rfl, rfl⟩
  go_wp2_with fail
  refine (HL.out _).mono ?_
  rintro e w4 ⟨rfl, hb4⟩
  have B4 := Lib.hid (Below.chain B3.out hb4)
  clear hb4 B3
  go_wp2
  go_ret
  exact ⟨rfl, B4.out⟩

end Go.Proofs.Ytcoaachajdomcaa
