/- The walk of TriTells. -/
import Derived.Test.YtlenlacjonhicaaPd
import Derived.Test.YtlenlacjonhicaaMf
namespace Go.Proofs.Ytlenlacjonhicaa
open Go.RowKit Go.Shelf Lev

set_option maxRecDepth 100000 in
set_option maxHeartbeats 2000000 in
theorem triTells (f : Fct) (A : Option Addr) (c : Nat) (C i j : Int) (w : World) (hx : SlArg w A f.xs c) :
    Calls Try.prog 3 #[facV f.C A f.xs.length c f.R f.T, .agg #[.int .i64 C, .int .i64 i, .int .i64 j]] w fun e w' => e = .returned (.bool true) ∧ Below w.heap.size w w' := by
  have hl63 : f.xs.length ≤ 9223372036854775807 := Nat.le_trans hx.cap hx.room
  have K0 := (((Keep.start w).more hx).alloc #[.int .i64 f.C, .slice A f.xs.length c, .int .i64 f.R, .int .i64 f.T] 24).alloc #[.int .i64 C, .int .i64 i, .int .i64 j] 25
  rw [World.size_alloc] at K0
  clear hx
  have hat := fun w => at_any C i j w
  have hrat := fun w => rat_any C i j w
  have hnew := fun w => new_any C w
  have hrnew := fun w => rnew_any C w
  have HAT := Lib.hid hat; have HRAT := Lib.hid hrat; have HNEW := Lib.hid hnew; have HRNEW := Lib.hid hrnew
  have hsz := fun w => size_any C w
  have hrsz := fun w => rsize_any C w
  have HSZ := Lib.hid hsz; have HRSZ := Lib.hid hrsz
  have hck := fun W hW => check_any f.C A f.xs c f.R f.T W hW
  have hrck := fun W hW => rcheck_any f.C A f.xs c f.R f.T W hW
  unfold facV at hck hrck
  have HCK := Lib.hid hck; have HRCK := Lib.hid hrck
  clear hat hrat hnew hrnew hsz hrsz hck hrck
  generalize atI C i j = p at *
  generalize atB C i j = pb at *
  generalize newE C = ne at *
  generalize newS C = nf at *
  generalize sizeI C = sz at *
  generalize checkS f.C f.xs f.R f.T = ck at *
  unfold facV
  go_enter Try.func3, Try.ntmps3
  go_wp2_with fail
  obtain ⟨W, hW⟩ : ∃ W, W = (w.alloc (.cells #[.int .i64 f.C, .slice A f.xs.length c, .int .i64 f.R, .int .i64 f.T] 24)).alloc (.cells #[.int .i64 C, .int .i64 i, .int .i64 j] 25) := ⟨_, rfl⟩
  rw [← hW] at K0 ⊢
  clear hW
  have q0 := (K0.box (.head _)).cell 0; have q1 := (K0.box (.head _)).cell 1; have q2 := (K0.box (.head _)).cell 2
  obtain ⟨r0, r1, r2, r3⟩ := (K0.box (.tail _ (.head _))).c4
  simp at q0 q1 q2
  go_quiet (fail)
  have K1 := K0.drewN nq
  clear K0 q0 q1 q2 r0 r1 r2 r3
  generalize W.drewN nq = W1 at *
  obtain ⟨r0, r1, r2, r3⟩ := (K1.box (.tail _ (.head _))).c4
  by_cases h60 : (60 : Int) < (f.xs.length : Int)
  · go_wp2_with fail
    refine (live07 _).mono ?_
    rintro e w' ⟨rfl, hb⟩
    have HB := Lib.hid (Below.add K1.below hb)
    clear hb
    go_wp2
    go_ret
    exact ⟨rfl, HB.out⟩
  · go_wp2_with fail
    refine (HAT.out _).mono ?_
    rintro e w' ⟨rfl, rfl⟩
    go_wp2_with fail
    refine (HRAT.out _).mono ?_
    rintro e w' ⟨rfl, rfl⟩
    go_wp2_with fail
    refine (HNEW.out _).mono ?_
    clear r0 r1 r2 r3
    rintro e w1 ⟨⟨v, rfl, A1, c1, rfl, hs1, _⟩, hb1⟩
    unfold facV
    have K2 := ((K1.call hb1).more hs1).alloc #[.int .i64 nf.C, .slice A1 nf.xs.length c1, .int .i64 nf.R, .int .i64 nf.T] 24
    clear K1 hb1 hs1
    go_wp2_with fail
    refine named ?_
    intro W2 hW2
    rw [← hW2] at K2
    clear hW2
    refine (HRNEW.out _).mono ?_
    rintro e w2 ⟨⟨v, rfl, A2, c2, rfl, hs2, _⟩, hb2⟩
    unfold facV
    have K3 := ((K2.call hb2).more hs2).alloc #[.int .i64 nf.C, .slice A2 nf.xs.length c2, .int .i64 nf.R, .int .i64 nf.T] 24
    clear K2 hb2 hs2
    go_wp2_with fail
    obtain ⟨X, hX⟩ : ∃ X, X = w2.alloc (.cells #[.int .i64 nf.C, .slice A2 nf.xs.length c2, .int .i64 nf.R, .int .i64 nf.T] 24) := ⟨_, rfl⟩
    rw [← hX] at K3 ⊢
    clear hX
    have b0 := K3.box (.tail _ (.tail _ (.tail _ (.head _))))
    have b1 := K3.box (.tail _ (.head _))
    have b2 := K3.box (.head _)
    have x0 := K3.arg (.tail _ (.tail _ (.head _)))
    have x1 := K3.arg (.tail _ (.head _))
    have x2 := K3.arg (.head _)
    have hsame := fun Y h1 h2 => fac_same nf A1 A2 c1 c2 Y h1 h2
    unfold facV at hsame
    have HS := Lib.hid hsame
    have KEEP : ∀ Y, Below X.heap.size X Y → (Y.cell? ⟨w.heap.size, 0, none⟩ = some (.int .i64 f.C) ∧ Y.cell? ⟨w.heap.size, 1, none⟩ = some (.slice A f.xs.length c) ∧ Y.cell? ⟨w.heap.size, 2, none⟩ = some (.int .i64 f.R) ∧ Y.cell? ⟨w.heap.size, 3, none⟩ = some (.int .i64 f.T)) ∧ (Y.cell? ⟨w1.heap.size, 0, none⟩ = some (.int .i64 nf.C) ∧ Y.cell? ⟨w1.heap.size, 1, none⟩ = some (.slice A1 nf.xs.length c1) ∧ Y.cell? ⟨w1.heap.size, 2, none⟩ = some (.int .i64 nf.R) ∧ Y.cell? ⟨w1.heap.size, 3, none⟩ = some (.int .i64 nf.T)) ∧ (Y.cell? ⟨w2.heap.size, 0, none⟩ = some (.int .i64 nf.C) ∧ Y.cell? ⟨w2.heap.size, 1, none⟩ = some (.slice A2 nf.xs.length c2) ∧ Y.cell? ⟨w2.heap.size, 2, none⟩ = some (.int .i64 nf.R) ∧ Y.cell? ⟨w2.heap.size, 3, none⟩ = some (.int .i64 nf.T)) ∧ Below X.heap.size X Y :=
      fun Y h => ⟨(b0.below h b0.lt).c4, (b1.below h b1.lt).c4, (b2.below h b2.lt).c4, h⟩
    have HKEEP := Lib.hid KEEP
    obtain ⟨r0, r1, r2, r3⟩ := b0.c4
    obtain ⟨s0, s1, s2, s3⟩ := b1.c4
    obtain ⟨t0, t1, t2, t3⟩ := b2.c4
    have X0 := Lib.hid x0; have X1 := Lib.hid x1; have X2 := Lib.hid x2
    clear KEEP hsame x0 x1 x2
    go_region_held3 (fun Y => (Y.cell? ⟨w.heap.size, 0, none⟩ = some (.int .i64 f.C) ∧ Y.cell? ⟨w.heap.size, 1, none⟩ = some (.slice A f.xs.length c) ∧ Y.cell? ⟨w.heap.size, 2, none⟩ = some (.int .i64 f.R) ∧ Y.cell? ⟨w.heap.size, 3, none⟩ = some (.int .i64 f.T)) ∧ (Y.cell? ⟨w1.heap.size, 0, none⟩ = some (.int .i64 nf.C) ∧ Y.cell? ⟨w1.heap.size, 1, none⟩ = some (.slice A1 nf.xs.length c1) ∧ Y.cell? ⟨w1.heap.size, 2, none⟩ = some (.int .i64 nf.R) ∧ Y.cell? ⟨w1.heap.size, 3, none⟩ = some (.int .i64 nf.T)) ∧ (Y.cell? ⟨w2.heap.size, 0, none⟩ = some (.int .i64 nf.C) ∧ Y.cell? ⟨w2.heap.size, 1, none⟩ = some (.slice A2 nf.xs.length c2) ∧ Y.cell? ⟨w2.heap.size, 2, none⟩ = some (.int .i64 nf.R) ∧ Y.cell? ⟨w2.heap.size, 3, none⟩ = some (.int .i64 nf.T)) ∧ Below X.heap.size X Y)
      ((refine HKEEP.out _ ?_; repeat (first | assumption | exact Below.refl _ _ | refine Below.allocs ?_ _ | refine Below.drews ?_ | refine Below.chain ?_ (by assumption))))
      (first
        | (go_at_call 14; ((with_reducible refine (HSZ.out _).mono ?_); rintro e w' ⟨rfl, rfl⟩))
        | (go_at_call 15; ((with_reducible refine (HRSZ.out _).mono ?_); rintro e w' ⟨rfl, rfl⟩))
        | (go_at_call 16; ((with_reducible refine (HS.out _ (X1.out.below (by repeat (first | assumption | exact Below.refl _ _ | refine Below.allocs ?_ _ | refine Below.drews ?_ | refine Below.chain ?_ (by assumption)))) (X2.out.below (by repeat (first | assumption | exact Below.refl _ _ | refine Below.allocs ?_ _ | refine Below.drews ?_ | refine Below.chain ?_ (by assumption))))).mono ?_); rintro e w5 ⟨rfl, hb5⟩))
        | (go_at_call 17; ((with_reducible refine (HCK.out _ (X0.out.below (by repeat (first | assumption | exact Below.refl _ _ | refine Below.allocs ?_ _ | refine Below.drews ?_ | refine Below.chain ?_ (by assumption))))).mono ?_); rintro e w5 ⟨rfl, hb5⟩))
        | (go_at_call 18; ((with_reducible refine (HRCK.out _ (X0.out.below (by repeat (first | assumption | exact Below.refl _ _ | refine Below.allocs ?_ _ | refine Below.drews ?_ | refine Below.chain ?_ (by assumption))))).mono ?_); rintro e w5 ⟨rfl, hb5⟩))
        | (go_at_call 9; ((with_reducible refine (live07 _).mono ?_); rintro e w5 ⟨rfl, hb5⟩)))
    all_goals
      go_wp2
      go_ret
      refine ⟨rfl, Below.chain K3.below ?_⟩
      repeat (first | assumption | exact Below.refl _ _ | refine Below.allocs ?_ _ | refine Below.drews ?_ | refine Below.chain ?_ (by assumption))

end Go.Proofs.Ytlenlacjonhicaa
