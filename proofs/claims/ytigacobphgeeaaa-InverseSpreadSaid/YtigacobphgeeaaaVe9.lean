/- Contracts of the document's Of of layer 17. -/
import Derived.Test.YtigacobphgeeaaaVd9
set_option linter.unusedVariables false
namespace Go.Proofs.Ytigacobphgeeaaa
open Go.RowKit Go.Shelf Lev

attribute [local go_sem] run_store_float order_lt order_gt order_eq order_ne flt_or_feq flt_or_feq'

set_option maxRecDepth 100000 in
set_option maxHeartbeats 2000000 in
theorem rof_no (f : Fct) (A : Option Addr) (c : Nat) (w : World) (hx : SlArg w A f.xs c) (hok : f.ok = false) :
    Calls Try.prog 30 #[facV f.C A f.xs.length c f.R f.T] w fun e w' => e = .returned (.tuple #[stV f, .int .i64 (stE f)]) ∧ Below w.heap.size w w' := by
  have hck := fun W h => rcheck_any f.C A f.xs c f.R f.T W h
  rw [show checkS f.C f.xs f.R f.T = false from hok] at hck
  have HE := Lib.hid (stE_no hok)
  have K0 := Lib.hid ((((Keep.start w).more hx).alloc #[.int .i64 f.C, .slice A f.xs.length c, .int .i64 f.R, .int .i64 f.T] 24).alloc #[.int .i64 0, .float .f64 0, .float .f64 0, .float .f64 0, .float .f64 0] 48)
  unfold facV at hck ⊢
  have HCK := Lib.hid hck
  clear hx hok hck
  go_enter Try.func30, Try.ntmps30
  go_wp2_with fail
  refine (HCK.out _ (K0.out.arg (.head _))).mono ?_
  rintro e w1 ⟨rfl, hb⟩
  have k1 := K0.out.call hb
  have hb1 : Bk w1 (w.heap.size + 1) 48 #[.int .i64 0, .float .f64 0, .float .f64 0, .float .f64 0, .float .f64 0] := by have := k1.box (.head _); rwa [World.size_alloc] at this
  have K1 := Lib.hid k1.below; have B1 := Lib.hid hb1
  obtain ⟨c0, c1, c2, c3, c4⟩ := hb1.c5
  obtain ⟨f0, f1, f2, f3, f4⟩ := hb1.f5
  clear hb k1 hb1 K0
  go_wp2
  refine ret_st2 (v0 := .int .i64 0) (v1 := .float .f64 0) (v2 := .float .f64 0) (v3 := .float .f64 0) (v4 := .float .f64 0) (x := .int .i64 1) (g := w.heap.size + 1) rfl rfl rfl ((st_box B1.out _ _ _ _ _).1) rfl ?_
  exact ⟨by rw [stV_bad (by rw [HE.out]; decide), HE.out], (st_box B1.out _ _ _ _ _).2 _ _ K1.out (Nat.le_succ _)⟩

set_option maxRecDepth 100000 in
set_option maxHeartbeats 2000000 in
theorem rof_few (f : Fct) (A : Option Addr) (c : Nat) (w : World) (hx : SlArg w A f.xs c) (hok : f.ok = true) (hf : f.R - f.C < 1) :
    Calls Try.prog 30 #[facV f.C A f.xs.length c f.R f.T] w fun e w' => e = .returned (.tuple #[stV f, .int .i64 (stE f)]) ∧ Below w.heap.size w w' := by
  obtain ⟨k1, k2, kx, k4, k5, k6, k7, k8, ky⟩ := ok_len hok
  clear kx ky
  have hck := fun W h => rcheck_any f.C A f.xs c f.R f.T W h
  rw [show checkS f.C f.xs f.R f.T = true from hok] at hck
  have HE := Lib.hid (stE_few hok hf)
  have K0 := Lib.hid ((((Keep.start w).more hx).alloc #[.int .i64 f.C, .slice A f.xs.length c, .int .i64 f.R, .int .i64 f.T] 24).alloc #[.int .i64 0, .float .f64 0, .float .f64 0, .float .f64 0, .float .f64 0] 48)
  unfold facV at hck ⊢
  have HCK := Lib.hid hck
  have t0 : decide (f.R ≤ f.C) = true := decide_eq_true (by omega)
  clear hx hok hck
  go_enter Try.func30, Try.ntmps30
  go_wp2_with fail
  refine (HCK.out _ (K0.out.arg (.head _))).mono ?_
  rintro e w1 ⟨rfl, hb⟩
  have k1 := K0.out.call hb
  have hb1 : Bk w1 (w.heap.size + 1) 48 #[.int .i64 0, .float .f64 0, .float .f64 0, .float .f64 0, .float .f64 0] := by have := k1.box (.head _); rwa [World.size_alloc] at this
  obtain ⟨a0, a1, a2, a3⟩ := (k1.box (.tail _ (.head _))).c4
  have K1 := Lib.hid k1.below; have B1 := Lib.hid hb1
  obtain ⟨c0, c1, c2, c3, c4⟩ := hb1.c5
  obtain ⟨f0, f1, f2, f3, f4⟩ := hb1.f5
  clear hb k1 hb1 K0
  go_wp2
  refine ret_st2 (v0 := .int .i64 0) (v1 := .float .f64 0) (v2 := .float .f64 0) (v3 := .float .f64 0) (v4 := .float .f64 0) (x := .int .i64 5) (g := w.heap.size + 1) rfl rfl rfl ((st_box B1.out _ _ _ _ _).1) rfl ?_
  exact ⟨by rw [stV_bad (by rw [HE.out]; decide), HE.out], (st_box B1.out _ _ _ _ _).2 _ _ K1.out (Nat.le_succ _)⟩

set_option maxRecDepth 100000 in
set_option maxHeartbeats 4000000 in
theorem rof_yes (f : Fct) (A : Option Addr) (c : Nat) (w : World) (hx : SlArg w A f.xs c) (hok : f.ok = true) (hf : 1 ≤ f.R - f.C) :
    Calls Try.prog 30 #[facV f.C A f.xs.length c f.R f.T] w fun e w' => e = .returned (.tuple #[stV f, .int .i64 (stE f)]) ∧ Below w.heap.size w w' := by
  obtain ⟨k1, k2, kx, k4, k5, k6, k7, k8, ky⟩ := ok_len hok
  clear kx ky
  have hck := fun W h => rcheck_any f.C A f.xs c f.R f.T W h
  rw [show checkS f.C f.xs f.R f.T = true from hok] at hck
  have hgt := fun W i h => rget_any f A c i f.C W h
  have HE := Lib.hid (stE_ok hok hf)
  obtain ⟨hd1, hd2, _⟩ := st_facts hok hf
  have K0 := Lib.hid ((((Keep.start w).more hx).alloc #[.int .i64 f.C, .slice A f.xs.length c, .int .i64 f.R, .int .i64 f.T] 24).alloc #[.int .i64 0, .float .f64 0, .float .f64 0, .float .f64 0, .float .f64 0] 48)
  unfold facV at hck hgt ⊢
  have HCK := Lib.hid hck
  have HGT := Lib.hid hgt
  have HSUM := Lib.hid (fun k (hk : k ≤ 100) => stSum hok hk)
  have HSQ := Lib.hid (fun k => (sq_bd (getS_small hok (k : Int) f.C)).1)
  have g1 : floatBits .quo .f64 (stRest f) (floatOfInt .f64 (f.R - f.C)) = some (stVar f) := hd1
  have r1 := fun (w : World) => run_float_arith (P := Try.prog) w .quo 29 .f64 _ _ _ g1
  have HD2 := Lib.hid hd2
  have t0 : decide (f.R ≤ f.C) = false := decide_eq_false (by omega)
  obtain ⟨C, hC⟩ : ∃ C : Nat, f.C = C := ⟨f.C.toNat, by omega⟩
  have HC := Lib.hid hC
  have hrr : floatBits .mul .f64 (getS f f.C f.C) (getS f f.C f.C) = some (stRest f) := by
    have h := (sq_bd (getS_small hok f.C f.C)).1
    have e : stRest f = fmul (getS f f.C f.C) (getS f f.C f.C) := by unfold stRest stT; rw [show ((f.C.toNat : Nat) : Int) = f.C from by omega]
    rw [e]; exact h
  have rr0 := fun (w : World) => run_float_arith (P := Try.prog) w .mul 29 .f64 _ _ _ hrr
  clear hx hok hck hgt hd1 hd2 g1 hf hC hrr
  go_enter Try.func30, Try.ntmps30
  go_wp2_with fail
  refine (HCK.out _ (K0.out.arg (.head _))).mono ?_
  rintro e w0 ⟨rfl, hb⟩
  have K1 := Lib.hid (K0.out.call hb)
  obtain ⟨a0, a1, a2, a3⟩ := ((K0.out.call hb).box (.tail _ (.head _))).c4
  clear hb
  go_wp2_with fail
  refine (HGT.out _ f.C (K1.out.arg (.head _))).mono ?_
  rintro e w1 ⟨rfl, hb⟩
  have K2 := Lib.hid (K1.out.call hb)
  have hz := ((K1.out.call hb).box (.tail _ (.head _))).lt
  clear a0 a1 a2 a3
  obtain ⟨a0, a1, a2, a3⟩ := ((K1.out.call hb).box (.tail _ (.head _))).c4
  clear hb
  go_wp2_with fail
  clear a0 a1 a2 a3
  go_loopw [6] (fun i wr => ∃ k : Nat, (k : Int) ≤ f.C + 1 ∧ i = .int .i64 (k : Int) ∧ Bk wr w1.heap.size 48 #[.int .i64 (f.R - f.C), .float .f64 (stRest f), .float .f64 (sumT (stT f) k), .float .f64 0, .float .f64 0] ∧ Below w1.heap.size w1 wr) (fun i _ => (f.C + 1).toNat - (intOf i).toNat)
  case atStart => exact ⟨0, by omega, rfl, Bk.new _ _ _, (Below.refl _ _).alloc (Nat.le_refl _) _⟩
  case round =>
    obtain ⟨k, hk, rfl, hB, hL⟩ := hrel
    have KR := Lib.hid (K2.out.call hL)
    obtain ⟨a0, a1, a2, a3⟩ := ((K2.out.call hL).box (.tail _ (.head _))).c4
    have hlz := hB.lt
    have HB := Lib.hid hB; have HL := Lib.hid hL; have HLZ := Lib.hid hlz
    clear hB hL hlz
    by_cases hlt : (k : Int) ≤ f.C
    · have g1 : floatBits .mul .f64 (getS f (k : Int) f.C) (getS f (k : Int) f.C) = some (stT f k) := HSQ.out k
      have g2 : floatBits .add .f64 (sumT (stT f) k) (stT f k) = some (sumT (stT f) (k + 1)) := (HSUM.out k (by omega)).1
      have rr1 := fun (w : World) => run_float_arith (P := Try.prog) w .mul 29 .f64 _ _ _ g1
      have rr2 := fun (w : World) => run_float_arith (P := Try.prog) w .add 29 .f64 _ _ _ g2
      clear g1 g2
      go_wp2_with fail
      refine (HGT.out _ (k : Int) (KR.out.arg (.head _))).mono ?_
      rintro e w2 ⟨rfl, hb2⟩
      have B2 := HB.out.below hb2 HLZ.out
      have L2 := HL.out.trans (hb2.mono (Nat.le_of_lt HLZ.out))
      obtain ⟨c0, c1, c2, c3, c4⟩ := B2.c5
      obtain ⟨f0, f1, f2, f3, f4⟩ := B2.f5
      have B3 := Lib.hid (B2.set 2 (.float .f64 (sumT (stT f) (k + 1))))
      have L3 := Lib.hid (L2.setCell (p := ⟨w1.heap.size, 2, none⟩) (Nat.le_refl _) (.float .f64 (sumT (stT f) (k + 1))))
      clear hb2 B2 L2 a0 a1 a2 a3
      go_wp2
      go_roundw
      case rel => exact ⟨k + 1, by omega, by go_num, by simpa using B3.out, L3.out⟩
      case measure => simp [intOf]; omega
    · have hkC : (k : Int) = f.C + 1 := by omega
      have et : stTot f = sumT (stT f) k := by unfold stTot; rw [show (f.C + 1).toNat = k from by omega]
      have B2 := HB.out
      rw [← et] at B2
      have r3 := KR.out.box (.head _)
      rw [World.size_alloc] at r3
      have r3 : Bk wr (w.heap.size + 1) 48 #[.int .i64 0, .float .f64 0, .float .f64 0, .float .f64 0, .float .f64 0] := r3
      have K3 := Lib.hid KR.out.below; have R3 := Lib.hid r3; have HB2 := Lib.hid B2
      obtain ⟨c0, c1, c2, c3, c4⟩ := B2.c5
      obtain ⟨f0, f1, f2, f3, f4⟩ := B2.f5
      obtain ⟨d0, d1, d2, d3, d4⟩ := r3.c5
      obtain ⟨e0, e1, e2, e3, e4⟩ := r3.f5
      have hne : w.heap.size + 1 ≠ w1.heap.size := by have := (K2.out.box (.head _)).lt; rw [World.size_alloc] at this; have h : w.heap.size + 1 < w1.heap.size := this; omega
      clear hkC et B2 r3
      by_cases hz0 : rg (stTot f) = 0
      · have q1 : feq (stTot f) 0 = true := by rw [feq_zero]; exact decide_eq_true hz0
        have HFIT := Lib.hid (show stFit f = 0 from by unfold stFit; rw [if_pos hz0])
        clear hz0
        have R4 := Lib.hid (R3.out.other (p := ⟨w1.heap.size, 3, none⟩) hne (.float .f64 (stVar f)))
        have K4 := Lib.hid (K3.out.setCell (p := ⟨w1.heap.size, 3, none⟩) (by show w.heap.size ≤ w1.heap.size; omega) (.float .f64 (stVar f)))
        go_wp2
        refine ret_st2 (v0 := .int .i64 (f.R - f.C)) (v1 := .float .f64 (stRest f)) (v2 := .float .f64 (stTot f)) (v3 := .float .f64 (stVar f)) (v4 := .float .f64 0) (x := .int .i64 0) (g := w.heap.size + 1) rfl rfl rfl (st_box R4.out _ _ _ _ _).1 rfl ?_
        exact ⟨by rw [stV_ok HE.out, HE.out, HFIT.out], (st_box R4.out _ _ _ _ _).2 _ _ K4.out (Nat.le_succ _)⟩
      · have q1 : feq (stTot f) 0 = false := by rw [feq_zero]; exact decide_eq_false hz0
        obtain ⟨hq1, hq2⟩ := HD2.out hz0
        have g1 : floatBits .quo .f64 (stRest f) (stTot f) = some (fdiv (stRest f) (stTot f)) := hq1
        have g2 : floatBits .sub .f64 4607182418800017408 (fdiv (stRest f) (stTot f)) = some (stFit f) := hq2
        have rr1 := fun (w : World) => run_float_arith (P := Try.prog) w .quo 29 .f64 _ _ _ g1
        have rr2 := fun (w : World) => run_float_arith (P := Try.prog) w .sub 29 .f64 _ _ _ g2
        have R4 := Lib.hid ((R3.out.other (p := ⟨w1.heap.size, 3, none⟩) hne (.float .f64 (stVar f))).other (p := ⟨w1.heap.size, 4, none⟩) hne (.float .f64 (stFit f)))
        have K4 := Lib.hid ((K3.out.setCell (p := ⟨w1.heap.size, 3, none⟩) (by show w.heap.size ≤ w1.heap.size; omega) (.float .f64 (stVar f))).setCell (p := ⟨w1.heap.size, 4, none⟩) (by show w.heap.size ≤ w1.heap.size; omega) (.float .f64 (stFit f)))
        clear hz0 hq1 hq2 g1 g2
        go_wp2
        refine ret_st2 (v0 := .int .i64 (f.R - f.C)) (v1 := .float .f64 (stRest f)) (v2 := .float .f64 (stTot f)) (v3 := .float .f64 (stVar f)) (v4 := .float .f64 (stFit f)) (x := .int .i64 0) (g := w.heap.size + 1) rfl rfl rfl (st_box R4.out _ _ _ _ _).1 rfl ?_
        exact ⟨by rw [stV_ok HE.out, HE.out], (st_box R4.out _ _ _ _ _).2 _ _ K4.out (Nat.le_succ _)⟩

/-- The document's Of. -/
theorem rof_any (f : Fct) (A : Option Addr) (c : Nat) (w : World) (hx : SlArg w A f.xs c) :
    Calls Try.prog 30 #[facV f.C A f.xs.length c f.R f.T] w fun e w' => e = .returned (.tuple #[stV f, .int .i64 (stE f)]) ∧ Below w.heap.size w w' := by
  cases hok : f.ok
  · exact rof_no f A c w hx hok
  · by_cases h : f.R - f.C < 1
    · exact rof_few f A c w hx hok h
    · exact rof_yes f A c w hx hok (by omega)

end Go.Proofs.Ytigacobphgeeaaa
