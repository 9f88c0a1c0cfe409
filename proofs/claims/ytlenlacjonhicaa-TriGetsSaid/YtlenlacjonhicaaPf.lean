/- The walk of TriGets. -/
import Derived.Test.YtlenlacjonhicaaPe
namespace Go.Proofs.Ytlenlacjonhicaa
open Go.RowKit Go.Shelf Lev

set_option maxRecDepth 100000 in
set_option maxHeartbeats 4000000 in
theorem triGets (f : Fct) (A : Option Addr) (c : Nat) (i j : Int) (l : List Nat) (L : Option Addr) (cl : Nat) (w : World) (hx : SlArg w A f.xs c) (hl : SlArg w L l cl) :
    Calls Try.prog 4 #[facV f.C A f.xs.length c f.R f.T, .agg #[.int .i64 i, .int .i64 j], .slice L l.length cl] w fun e w' => e = .returned (.bool true) ∧ Below w.heap.size w w' := by
  have hl63 : f.xs.length ≤ 9223372036854775807 := Nat.le_trans hx.cap hx.room
  have hl64 : l.length ≤ 9223372036854775807 := Nat.le_trans hl.cap hl.room
  have K0 := ((((Keep.start w).more hl).more hx).alloc #[.int .i64 f.C, .slice A f.xs.length c, .int .i64 f.R, .int .i64 f.T] 24).alloc #[.int .i64 i, .int .i64 j] 36
  rw [World.size_alloc] at K0
  have hgl : getS f i j < 18446744073709551616 := getS_lt hx.reads.1 _ _
  have hgl2 := sameS_self (getS f i j)
  have hset := fun W h1 h2 => set_any f A c i l L cl W h1 h2
  have hrset := fun W h1 h2 => rset_any f A c i l L cl W h1 h2
  have hget := fun W h => get_any f A c i j W h
  have hrget := fun W h => rget_any f A c i j W h
  have hline := fun W h => line_any f A c i W h
  have hrline := fun W h => rline_any f A c i W h
  unfold facV at hset hrset hget hrget hline hrline
  have HSET := Lib.hid hset; have HRSET := Lib.hid hrset; have HGET := Lib.hid hget; have HRGET := Lib.hid hrget; have HLINE := Lib.hid hline; have HRLINE := Lib.hid hrline
  have HGL := Lib.hid hgl; have HGL2 := Lib.hid hgl2
  clear hset hrset hget hrget hline hrline hgl hgl2 hx hl
  generalize setB f i l = sb at *
  generalize setF f i l = sf at *
  generalize getS f i j = g at *
  generalize lineS f i = ln at *
  unfold facV
  by_cases h60 : (60 : Int) < (f.xs.length : Int) ∨ (20 : Int) < (l.length : Int)
  · rcases (by omega : (60 : Int) < (f.xs.length : Int) ∨ (¬ (60 : Int) < (f.xs.length : Int) ∧ (20 : Int) < (l.length : Int))) with h1 | ⟨h1, h2⟩
    all_goals
      clear h60
      go_enter Try.func4, Try.ntmps4
      go_wp2_with fail
      refine named ?_
      intro W hW
      rw [← hW] at K0
      clear hW
      refine (live07 _).mono ?_
      rintro e w' ⟨rfl, hb⟩
      have HB := Lib.hid (Below.add K0.below hb)
      clear hb
      go_wp2
      go_ret
      exact ⟨rfl, HB.out⟩
  · have h1 : ¬ (60 : Int) < (f.xs.length : Int) := fun h => h60 (.inl h)
    have h2 : ¬ (20 : Int) < (l.length : Int) := fun h => h60 (.inr h)
    clear h60
    go_enter Try.func4, Try.ntmps4
    go_wp2_with fail
    refine named ?_
    intro W hW
    rw [← hW] at K0
    clear hW
    refine (HSET.out _ (K0.arg (.head _)) (K0.arg (.tail _ (.head _)))).mono ?_
    rintro e w1 ⟨⟨v, rfl, A1, c1, rfl, hs1, _⟩, hb1⟩
    unfold facV
    have K1 := (K0.call hb1).more hs1
    clear K0 hb1 hs1
    obtain ⟨r0, r1, r2, r3⟩ := (K1.box (.tail _ (.head _))).c4
    have q0 := (K1.box (.head _)).cell 0; have q1 := (K1.box (.head _)).cell 1
    simp at q0 q1
    have hlt1 : w.heap.size < w1.heap.size := (K1.box (.tail _ (.head _))).lt
    have hlt2 : w.heap.size + 1 < w1.heap.size := (K1.box (.head _)).lt
    have K2 := K1.alloc #[.int .i64 sf.C, .slice A1 sf.xs.length c1, .int .i64 sf.R, .int .i64 sf.T] 24
    clear K1
    go_wp2_with fail
    refine named ?_
    intro W2 hW2
    rw [← hW2] at K2
    clear hW2 r0 r1 r2 r3 q0 q1 hlt1 hlt2
    refine (HRSET.out _ (K2.arg (.tail _ (.head _))) (K2.arg (.tail _ (.tail _ (.head _))))).mono ?_
    rintro e w2 ⟨⟨v, rfl, A2, c2, rfl, hs2, _⟩, hb2⟩
    unfold facV
    have K3 := ((K2.call hb2).more hs2).alloc #[.int .i64 sf.C, .slice A2 sf.xs.length c2, .int .i64 sf.R, .int .i64 sf.T] 24
    clear K2 hb2 hs2
    go_wp2_with fail
    obtain ⟨X, hX⟩ : ∃ X, X = w2.alloc (.cells #[.int .i64 sf.C, .slice A2 sf.xs.length c2, .int .i64 sf.R, .int .i64 sf.T] 24) := ⟨_, rfl⟩
    rw [← hX] at K3 ⊢
    clear hX
    have b0 := K3.box (.tail _ (.tail _ (.tail _ (.head _))))
    have bp := K3.box (.tail _ (.tail _ (.head _)))
    have b1 := K3.box (.tail _ (.head _))
    have b2 := K3.box (.head _)
    have x0 := K3.arg (.tail _ (.tail _ (.head _)))
    have x1 := K3.arg (.tail _ (.head _))
    have x2 := K3.arg (.head _)
    have hsame := fun Y h1 h2 => fac_same sf A1 A2 c1 c2 Y h1 h2
    unfold facV at hsame
    have HS := Lib.hid hsame
    have KEEP : ∀ Y, Below X.heap.size X Y → (Y.cell? ⟨w.heap.size, 0, none⟩ = some (.int .i64 f.C) ∧ Y.cell? ⟨w.heap.size, 1, none⟩ = some (.slice A f.xs.length c) ∧ Y.cell? ⟨w.heap.size, 2, none⟩ = some (.int .i64 f.R) ∧ Y.cell? ⟨w.heap.size, 3, none⟩ = some (.int .i64 f.T)) ∧ (Y.cell? ⟨w1.heap.size, 0, none⟩ = some (.int .i64 sf.C) ∧ Y.cell? ⟨w1.heap.size, 1, none⟩ = some (.slice A1 sf.xs.length c1) ∧ Y.cell? ⟨w1.heap.size, 2, none⟩ = some (.int .i64 sf.R) ∧ Y.cell? ⟨w1.heap.size, 3, none⟩ = some (.int .i64 sf.T)) ∧ (Y.cell? ⟨w2.heap.size, 0, none⟩ = some (.int .i64 sf.C) ∧ Y.cell? ⟨w2.heap.size, 1, none⟩ = some (.slice A2 sf.xs.length c2) ∧ Y.cell? ⟨w2.heap.size, 2, none⟩ = some (.int .i64 sf.R) ∧ Y.cell? ⟨w2.heap.size, 3, none⟩ = some (.int .i64 sf.T)) ∧ (Y.cell? ⟨w.heap.size + 1, 0, none⟩ = some (.int .i64 i) ∧ Y.cell? ⟨w.heap.size + 1, 1, none⟩ = some (.int .i64 j)) ∧ Below X.heap.size X Y :=
      fun Y h => ⟨(b0.below h b0.lt).c4, (b1.below h b1.lt).c4, (b2.below h b2.lt).c4, ⟨(bp.below h bp.lt).cell 0, (bp.below h bp.lt).cell 1⟩, h⟩
    have HKEEP := Lib.hid KEEP
    obtain ⟨r0, r1, r2, r3⟩ := b0.c4
    obtain ⟨s0, s1, s2, s3⟩ := b1.c4
    obtain ⟨t0, t1, t2, t3⟩ := b2.c4
    have q0 := bp.cell 0; have q1 := bp.cell 1
    simp at q0 q1
    have X0 := Lib.hid x0; have X1 := Lib.hid x1; have X2 := Lib.hid x2
    clear KEEP hsame x0 x1 x2
    go_region_held3 (fun Y => (Y.cell? ⟨w.heap.size, 0, none⟩ = some (.int .i64 f.C) ∧ Y.cell? ⟨w.heap.size, 1, none⟩ = some (.slice A f.xs.length c) ∧ Y.cell? ⟨w.heap.size, 2, none⟩ = some (.int .i64 f.R) ∧ Y.cell? ⟨w.heap.size, 3, none⟩ = some (.int .i64 f.T)) ∧ (Y.cell? ⟨w1.heap.size, 0, none⟩ = some (.int .i64 sf.C) ∧ Y.cell? ⟨w1.heap.size, 1, none⟩ = some (.slice A1 sf.xs.length c1) ∧ Y.cell? ⟨w1.heap.size, 2, none⟩ = some (.int .i64 sf.R) ∧ Y.cell? ⟨w1.heap.size, 3, none⟩ = some (.int .i64 sf.T)) ∧ (Y.cell? ⟨w2.heap.size, 0, none⟩ = some (.int .i64 sf.C) ∧ Y.cell? ⟨w2.heap.size, 1, none⟩ = some (.slice A2 sf.xs.length c2) ∧ Y.cell? ⟨w2.heap.size, 2, none⟩ = some (.int .i64 sf.R) ∧ Y.cell? ⟨w2.heap.size, 3, none⟩ = some (.int .i64 sf.T)) ∧ (Y.cell? ⟨w.heap.size + 1, 0, none⟩ = some (.int .i64 i) ∧ Y.cell? ⟨w.heap.size + 1, 1, none⟩ = some (.int .i64 j)) ∧ Below X.heap.size X Y)
      ((refine HKEEP.out _ ?_; repeat (first | assumption | exact Below.refl _ _ | refine Below.allocs ?_ _ | refine Below.drews ?_ | refine Below.drewNs ?_ _ | refine Below.chain ?_ (by assumption))))
      (first
        | (go_at_call 22; ((with_reducible refine (HGET.out _ (X0.out.below (by repeat (first | assumption | exact Below.refl _ _ | refine Below.allocs ?_ _ | refine Below.drews ?_ | refine Below.drewNs ?_ _ | refine Below.chain ?_ (by assumption))))).mono ?_); rintro e w5 ⟨rfl, hb5⟩))
        | (go_at_call 23; ((with_reducible refine (HRGET.out _ (X0.out.below (by repeat (first | assumption | exact Below.refl _ _ | refine Below.allocs ?_ _ | refine Below.drews ?_ | refine Below.drewNs ?_ _ | refine Below.chain ?_ (by assumption))))).mono ?_); rintro e w5 ⟨rfl, hb5⟩))
        | (go_at_call 21; ((with_reducible refine (rsame_any g g HGL.out HGL.out _).mono ?_); rintro e w' ⟨rfl, rfl⟩); rw [HGL2.out])
        | (go_at_call 25; ((with_reducible refine (HLINE.out _ (X0.out.below (by repeat (first | assumption | exact Below.refl _ _ | refine Below.allocs ?_ _ | refine Below.drews ?_ | refine Below.drewNs ?_ _ | refine Below.chain ?_ (by assumption))))).mono ?_); rintro e w5 ⟨⟨v, rfl, A5, c5, rfl, hs5, _⟩, hb5⟩))
        | (go_at_call 26; ((with_reducible refine (HRLINE.out _ (X0.out.below (by repeat (first | assumption | exact Below.refl _ _ | refine Below.allocs ?_ _ | refine Below.drews ?_ | refine Below.drewNs ?_ _ | refine Below.chain ?_ (by assumption))))).mono ?_); rintro e w5 ⟨⟨v, rfl, A6, c6, rfl, hs6, _⟩, hb6⟩))
        | (go_at_call 24; ((with_reducible refine (all_same A5 A6 ln c5 c6 _ (hs5.below (by repeat (first | assumption | exact Below.refl _ _ | refine Below.allocs ?_ _ | refine Below.drews ?_ | refine Below.drewNs ?_ _ | refine Below.chain ?_ (by assumption)))) (hs6.below (by repeat (first | assumption | exact Below.refl _ _ | refine Below.allocs ?_ _ | refine Below.drews ?_ | refine Below.drewNs ?_ _ | refine Below.chain ?_ (by assumption))))).mono ?_); rintro e w' ⟨rfl, n, rfl⟩))
        | (go_at_call 16; ((with_reducible refine (HS.out _ (X1.out.below (by repeat (first | assumption | exact Below.refl _ _ | refine Below.allocs ?_ _ | refine Below.drews ?_ | refine Below.drewNs ?_ _ | refine Below.chain ?_ (by assumption)))) (X2.out.below (by repeat (first | assumption | exact Below.refl _ _ | refine Below.allocs ?_ _ | refine Below.drews ?_ | refine Below.drewNs ?_ _ | refine Below.chain ?_ (by assumption))))).mono ?_); rintro e w5 ⟨rfl, hb5⟩))
        | (go_at_call 9; ((with_reducible refine (live07 _).mono ?_); rintro e w5 ⟨rfl, hb5⟩)))
    all_goals
      go_wp2
      go_ret
      refine ⟨rfl, Below.chain K3.below ?_⟩
      repeat (first | assumption | exact Below.refl _ _ | refine Below.allocs ?_ _ | refine Below.drews ?_ | refine Below.drewNs ?_ _ | refine Below.chain ?_ (by assumption))

end Go.Proofs.Ytlenlacjonhicaa
