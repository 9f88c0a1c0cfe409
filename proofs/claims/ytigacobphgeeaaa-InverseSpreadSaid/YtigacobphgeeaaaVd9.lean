/- Contracts of package stats: Of, of a factor with free rows. -/
import Derived.Test.YtigacobphgeeaaaVc9
import Derived.Laws.NewBlocks
set_option linter.unusedVariables false
namespace Go.Proofs.Ytigacobphgeeaaa
open Go.RowKit Go.Shelf Lev

attribute [local go_sem] run_store_float order_lt order_gt order_eq order_ne flt_or_feq flt_or_feq'

set_option maxRecDepth 100000 in
set_option maxHeartbeats 4000000 in
theorem sof_yes (f : Fct) (A : Option Addr) (c : Nat) (w : World) (hx : SlArg w A f.xs c) (hok : f.ok = true) (hf : 1 ≤ f.R - f.C) :
    Calls Try.prog 75 #[facV f.C A f.xs.length c f.R f.T] w fun e w' => e = .returned (.tuple #[stV f, .int .i64 (stE f)]) ∧ Below w.heap.size w w' := by
  obtain ⟨k1, k2, kx, k4, k5, k6, k7, k8, ky⟩ := ok_len hok
  clear kx ky
  have hck := fun W h => check_any f.C A f.xs c f.R f.T W h
  rw [show checkS f.C f.xs f.R f.T = true from hok] at hck
  have hgt := fun W i h => get_any f A c i f.C W h
  have HE := Lib.hid (stE_ok hok hf)
  obtain ⟨hd1, hd2, _⟩ := st_facts hok hf
  have K0 := Lib.hid ((((Keep.start w).more hx).alloc #[.int .i64 f.C, .slice A f.xs.length c, .int .i64 f.R, .int .i64 f.T] 24).alloc #[.int .i64 0, .float .f64 0, .float .f64 0, .float .f64 0, .float .f64 0] 48)
  unfold facV at hck hgt ⊢
  have HCK := Lib.hid hck
  have HGT := Lib.hid hgt
  have HSUM := Lib.hid (fun k (hk : k ≤ 100) => stSum hok hk)
  have HSQ := Lib.hid (fun k => (sq_bd (getS_small hok (k : Int) f.C)).1)
  have g1 : floatBits .quo .f64 (stRest f) (floatOfInt .f64 (f.R - f.C)) = some (stVar f) := hd1
  have r1 := fun (w : World) => run_float_arith (P := Try.prog) w .quo 29 .f64 _ _ _ g1
  have HD2 := Lib.hid hd2
  have t0 : decide (f.R - f.C < 1) = false := decide_eq_false (by omega)
  obtain ⟨C, hC⟩ : ∃ C : Nat, f.C = C := ⟨f.C.toNat, by omega⟩
  have HC := Lib.hid hC
  clear hx hok hck hgt hd1 hd2 g1 hf hC
  go_enter Try.func75, Try.ntmps75
  go_wp2_with fail
  refine (HCK.out _ (K0.out.arg (.head _))).mono ?_
  rintro e w1 ⟨rfl, hb⟩
  have K1 := Lib.hid (K0.out.call hb)
  obtain ⟨a0, a1, a2, a3⟩ := ((K0.out.call hb).box (.tail _ (.head _))).c4
  have hz := ((K0.out.call hb).box (.tail _ (.head _))).lt
  clear hb
  go_wp2_with fail
  clear a0 a1 a2 a3
  have HZ := Lib.hid hz
  clear hz
  go_loopw [23] (fun i wr => ∃ k : Nat, (k : Int) ≤ f.C ∧ i = .int .i64 (k : Int) ∧ Bk wr w1.heap.size 104 #[.float .f64 (sumT (stT f) k), .float .f64 0] ∧ Below w1.heap.size w1 wr) (fun i _ => f.C.toNat - (intOf i).toNat)
  case atStart => exact ⟨0, by omega, rfl, Bk.new _ _ _, (Below.refl _ _).alloc (Nat.le_refl _) _⟩
  case round =>
    obtain ⟨k, hk, rfl, hB, hL⟩ := hrel
    have KR := Lib.hid (K1.out.call hL)
    obtain ⟨a0, a1, a2, a3⟩ := ((K1.out.call hL).box (.tail _ (.head _))).c4
    have hlz := hB.lt
    have HB := Lib.hid hB; have HL := Lib.hid hL; have HLZ := Lib.hid hlz
    clear hB hL hlz
    by_cases hlt : (k : Int) < f.C
    · go_wp2_with fail
      refine (HGT.out _ (k : Int) (KR.out.arg (.head _))).mono ?_
      rintro e w2 ⟨rfl, hb2⟩
      have B2 := HB.out.below hb2 HLZ.out
      have L2 := Lib.hid (HL.out.trans (hb2.mono (Nat.le_of_lt HLZ.out)))
      have hadd := sadd_any w1.heap.size _ (getS f (k : Int) f.C) _ _ w2 (B2.cell 0) (B2.frozen 0) (HSQ.out k) (HSUM.out k (by omega)).1
      have HADD := Lib.hid hadd
      have B3 := Lib.hid (B2.set 0 (.float .f64 (sumT (stT f) (k + 1))))
      have L3 := Lib.hid (L2.out.setCell (p := ⟨w1.heap.size, 0, none⟩) (Nat.le_refl _) (.float .f64 (sumT (stT f) (k + 1))))
      clear hb2 B2 hadd a0 a1 a2 a3
      go_wp2_with fail
      refine HADD.out.mono ?_
      rintro e w3 ⟨rfl, rfl⟩
      go_wp2
      go_roundw
      case rel => exact ⟨k + 1, by omega, by go_num, by simpa using B3.out, L3.out⟩
      case measure => simp [intOf]; omega
    · have hkC : (k : Int) = f.C := by omega
      have HKC := Lib.hid hkC
      clear hkC
      go_wp2_with fail
      refine (HGT.out _ f.C (KR.out.arg (.head _))).mono ?_
      rintro e w2 ⟨rfl, hb2⟩
      have B2 := HB.out.below hb2 HLZ.out
      have L2 := HL.out.trans (hb2.mono (Nat.le_of_lt HLZ.out))
      have hsq := HSQ.out k
      have hsm := (HSUM.out k (by omega)).1
      have er : stRest f = stT f k := by unfold stRest; rw [show f.C.toNat = k from by omega]
      have et : stTot f = sumT (stT f) (k + 1) := by unfold stTot; rw [show (f.C + 1).toNat = k + 1 from by omega]
      rw [show stT f k = stRest f from er.symm, ← et] at hsm
      rw [HKC.out, show fmul (getS f f.C f.C) (getS f f.C f.C) = stRest f from by rw [er]; unfold stT; rw [HKC.out]] at hsq
      have hend := send_any w1.heap.size (sumT (stT f) k) (getS f f.C f.C) (stRest f) (stTot f) _ _ w2 B2 hsq hsm
      have HEND := Lib.hid hend
      have B3 := (B2.set 1 (.float .f64 (stRest f))).set 0 (.float .f64 (stTot f))
      have L3 := (L2.setCell (p := ⟨w1.heap.size, 1, none⟩) (Nat.le_refl _) (.float .f64 (stRest f))).setCell (p := ⟨w1.heap.size, 0, none⟩) (Nat.le_refl _) (.float .f64 (stTot f))
      clear hb2 B2 L2 hsq hsm er et hend a0 a1 a2 a3 KR
      go_wp2_with fail
      refine HEND.out.mono ?_
      rintro e w3' ⟨rfl, rfl⟩
      have B4 : Bk ((w2.setCell ⟨w1.heap.size, 1, none⟩ (.float .f64 (stRest f))).setCell ⟨w1.heap.size, 0, none⟩ (.float .f64 (stTot f))) w1.heap.size 104 #[.float .f64 (stTot f), .float .f64 (stRest f)] := by simpa using B3
      generalize (w2.setCell ⟨w1.heap.size, 1, none⟩ (.float .f64 (stRest f))).setCell ⟨w1.heap.size, 0, none⟩ (.float .f64 (stTot f)) = w3 at *
      have k3 := K1.out.call L3
      have r3 : Bk w3 (w.heap.size + 1) 48 #[.int .i64 0, .float .f64 0, .float .f64 0, .float .f64 0, .float .f64 0] := by have := k3.box (.head _); rwa [World.size_alloc] at this
      have K3 := Lib.hid k3.below; have R3 := Lib.hid r3
      have z3 := B4.lt
      have z4 := r3.lt
      have e0 : w3.cell? ⟨w1.heap.size, 0, none⟩ = some (.float .f64 (stTot f)) := B4.cell 0
      have e1 : w3.cell? ⟨w1.heap.size, 1, none⟩ = some (.float .f64 (stRest f)) := B4.cell 1
      obtain ⟨c0, c1, c2, c3, c4⟩ := r3.c5
      obtain ⟨f0, f1, f2, f3, f4⟩ := r3.f5
      clear B3 B4 k3 r3 L3
      by_cases hz0 : rg (stTot f) = 0
      · have q1 : feq (stTot f) 0 = true := by rw [feq_zero]; exact decide_eq_true hz0
        have HFIT := Lib.hid (show stFit f = 0 from by unfold stFit; rw [if_pos hz0])
        clear hz0
        go_wp2
        refine ret_st2 (v0 := .int .i64 (f.R - f.C)) (v1 := .float .f64 (stRest f)) (v2 := .float .f64 (stTot f)) (v3 := .float .f64 (stVar f)) (v4 := .float .f64 0) (x := .int .i64 0) (g := w.heap.size + 1) rfl rfl rfl (((st_box R3.out _ _ _ _ _).1).alloc _) rfl ?_
        exact ⟨by rw [stV_ok HE.out, HE.out, HFIT.out], ((st_box R3.out _ _ _ _ _).2 _ _ K3.out (Nat.le_succ _)).alloc (by simp [stored5, World.setCell]; omega) _⟩
      · have q1 : feq (stTot f) 0 = false := by rw [feq_zero]; exact decide_eq_false hz0
        obtain ⟨hq1, hq2⟩ := HD2.out hz0
        have g1 : floatBits .quo .f64 (stRest f) (stTot f) = some (fdiv (stRest f) (stTot f)) := hq1
        have g2 : floatBits .sub .f64 4607182418800017408 (fdiv (stRest f) (stTot f)) = some (stFit f) := hq2
        have rr1 := fun (w : World) => run_float_arith (P := Try.prog) w .quo 29 .f64 _ _ _ g1
        have rr2 := fun (w : World) => run_float_arith (P := Try.prog) w .sub 29 .f64 _ _ _ g2
        clear hz0 hq1 hq2 g1 g2
        go_wp2
        refine ret_st2 (v0 := .int .i64 (f.R - f.C)) (v1 := .float .f64 (stRest f)) (v2 := .float .f64 (stTot f)) (v3 := .float .f64 (stVar f)) (v4 := .float .f64 (stFit f)) (x := .int .i64 0) (g := w.heap.size + 1) rfl rfl rfl (((st_box R3.out _ _ _ _ _).1).alloc _) rfl ?_
        exact ⟨by rw [stV_ok HE.out, HE.out], ((st_box R3.out _ _ _ _ _).2 _ _ K3.out (Nat.le_succ _)).alloc (by simp [stored5, World.setCell]; omega) _⟩

/-- Of: what is left over by a factor's answers. -/
theorem sof_any (f : Fct) (A : Option Addr) (c : Nat) (w : World) (hx : SlArg w A f.xs c) :
    Calls Try.prog 75 #[facV f.C A f.xs.length c f.R f.T] w fun e w' => e = .returned (.tuple #[stV f, .int .i64 (stE f)]) ∧ Below w.heap.size w w' := by
  cases hok : f.ok
  · exact sof_no f A c w hx hok
  · by_cases h : f.R - f.C < 1
    · exact sof_few f A c w hx hok h
    · exact sof_yes f A c w hx hok (by omega)

end Go.Proofs.Ytigacobphgeeaaa
