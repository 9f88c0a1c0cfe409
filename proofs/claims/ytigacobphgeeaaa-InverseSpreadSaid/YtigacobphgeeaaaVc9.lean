/- Contracts of package stats: Of. -/
import Derived.Test.YtigacobphgeeaaaVb9
set_option linter.unusedVariables false
namespace Lev
def stV (f : Fct) : Go.Value := if stE f = 0 then .agg #[.int .i64 (f.R - f.C), .float .f64 (stRest f), .float .f64 (stTot f), .float .f64 (stVar f), .float .f64 (stFit f)] else .agg #[.int .i64 0, .float .f64 0, .float .f64 0, .float .f64 0, .float .f64 0]
theorem stE_no {f : Fct} (h : f.ok = false) : stE f = 1 := by unfold stE; rw [if_pos h]
theorem stE_few {f : Fct} (h : f.ok = true) (h2 : f.R - f.C < 1) : stE f = 5 := by unfold stE; rw [if_neg (by rw [h]; decide), if_pos h2]
theorem stE_ok {f : Fct} (h : f.ok = true) (h2 : 1 ≤ f.R - f.C) : stE f = 0 := by unfold stE; rw [if_neg (by rw [h]; decide), if_neg (by omega)]
theorem stV_bad {f : Fct} (h : stE f ≠ 0) : stV f = .agg #[.int .i64 0, .float .f64 0, .float .f64 0, .float .f64 0, .float .f64 0] := by unfold stV; rw [if_neg h]
theorem stV_ok {f : Fct} (h : stE f = 0) : stV f = .agg #[.int .i64 (f.R - f.C), .float .f64 (stRest f), .float .f64 (stTot f), .float .f64 (stVar f), .float .f64 (stFit f)] := by unfold stV; rw [if_pos h]
end Lev
namespace Go.Proofs.Ytigacobphgeeaaa
open Go.RowKit Go.Shelf Lev

attribute [local go_sem] run_store_float order_lt order_gt order_eq order_ne flt_or_feq flt_or_feq'

theorem Bk.c5 {w : World} {g : Nat} {t : TypeId} {v0 v1 v2 v3 v4 : Value} (h : Bk w g t #[v0, v1, v2, v3, v4]) : w.cell? ⟨g, 0, none⟩ = some v0 ∧ w.cell? ⟨g, 1, none⟩ = some v1 ∧ w.cell? ⟨g, 2, none⟩ = some v2 ∧ w.cell? ⟨g, 3, none⟩ = some v3 ∧ w.cell? ⟨g, 4, none⟩ = some v4 :=
  ⟨h.cell 0, h.cell 1, h.cell 2, h.cell 3, h.cell 4⟩
theorem Bk.f5 {w : World} {g : Nat} {t : TypeId} {v0 v1 v2 v3 v4 : Value} (h : Bk w g t #[v0, v1, v2, v3, v4]) : w.frozen? ⟨g, 0, none⟩ = false ∧ w.frozen? ⟨g, 1, none⟩ = false ∧ w.frozen? ⟨g, 2, none⟩ = false ∧ w.frozen? ⟨g, 3, none⟩ = false ∧ w.frozen? ⟨g, 4, none⟩ = false :=
  ⟨h.frozen 0, h.frozen 1, h.frozen 2, h.frozen 3, h.frozen 4⟩
/-- Five cells are stored into a box. -/
def stored5 (w : World) (g : Nat) (v0 v1 v2 v3 v4 : Value) : World := ((((w.setCell ⟨g, 0, none⟩ v0).setCell ⟨g, 1, none⟩ v1).setCell ⟨g, 2, none⟩ v2).setCell ⟨g, 3, none⟩ v3).setCell ⟨g, 4, none⟩ v4
theorem st_box {w : World} {g : Nat} {t : TypeId} {u0 u1 u2 u3 u4 : Value} (h : Bk w g t #[u0, u1, u2, u3, u4]) (v0 v1 v2 v3 v4 : Value) :
    Bk (stored5 w g v0 v1 v2 v3 v4) g t #[v0, v1, v2, v3, v4] ∧ (∀ B a, Below B a w → B ≤ g → Below B a (stored5 w g v0 v1 v2 v3 v4)) := by
  unfold stored5
  refine ⟨by simpa using ((((h.set 0 v0).set 1 v1).set 2 v2).set 3 v3).set 4 v4, fun B a hb hg => ?_⟩
  exact ((((hb.setCell (p := ⟨g, 0, none⟩) hg v0).setCell (p := ⟨g, 1, none⟩) hg v1).setCell (p := ⟨g, 2, none⟩) hg v2).setCell (p := ⟨g, 3, none⟩) hg v3).setCell (p := ⟨g, 4, none⟩) hg v4
/-- A call returns statistics that lie in a box, and a word. -/
theorem ret_st2 {fn : Func} {R : Ending → World → Prop} {a : Act} {w : World} {i k : Tmp} {g : Nat} {v0 v1 v2 v3 v4 x : Value} (hres : fn.results = #[.cell i 48, .tmp k]) (hi : a.tmps[i]?.getD undef = .pointer (some ⟨g, 0, none⟩))
    (hk : a.tmps[k]?.getD undef = x) (hb : Bk w g 48 #[v0, v1, v2, v3, v4]) (hd : a.defers = []) (hR : R (.returned (.tuple #[.agg #[v0, v1, v2, v3, v4], x])) w) : bodyPost Try.prog fn R .ret a w := by
  obtain ⟨s0, s1, s2, s3, s4⟩ := hb.c5
  refine bodyPost_ret ?_ hd hR
  simp [results, hres, go_sem, hi, hk, s0, s1, s2, s3, s4]

def zSt : Array Value := #[.int .i64 0, .float .f64 0, .float .f64 0, .float .f64 0, .float .f64 0]

set_option maxRecDepth 100000 in
set_option maxHeartbeats 2000000 in
theorem sof_no (f : Fct) (A : Option Addr) (c : Nat) (w : World) (hx : SlArg w A f.xs c) (hok : f.ok = false) :
    Calls Try.prog 75 #[facV f.C A f.xs.length c f.R f.T] w fun e w' => e = .returned (.tuple #[stV f, .int .i64 (stE f)]) ∧ Below w.heap.size w w' := by
  have hck := fun W h => check_any f.C A f.xs c f.R f.T W h
  rw [show checkS f.C f.xs f.R f.T = false from hok] at hck
  have HE := Lib.hid (stE_no hok)
  have K0 := Lib.hid ((((Keep.start w).more hx).alloc #[.int .i64 f.C, .slice A f.xs.length c, .int .i64 f.R, .int .i64 f.T] 24).alloc #[.int .i64 0, .float .f64 0, .float .f64 0, .float .f64 0, .float .f64 0] 48)
  unfold facV at hck ⊢
  have HCK := Lib.hid hck
  clear hx hok hck
  go_enter Try.func75, Try.ntmps75
  go_wp2_with fail
  refine (HCK.out _ (K0.out.arg (.head _))).mono ?_
  rintro e w1 ⟨rfl, hb⟩
  have k1 := K0.out.call hb
  have hb1 : Bk w1 (w.heap.size + 1) 48 #[.int .i64 0, .float .f64 0, .float .f64 0, .float .f64 0, .float .f64 0] := by have := k1.box (.head _); rwa [World.size_alloc] at this
  have K1 := Lib.hid k1.below; have B1 := Lib.hid hb1
  obtain ⟨c0, c1, c2, c3, c4⟩ := hb1.c5
  obtain ⟨f0, f1, f2, f3, f4⟩ := hb1.f5
  clear hb k1 hb1 K0
  go_wp2
  refine ret_st2 (v0 := .int .i64 0) (v1 := .float .f64 0) (v2 := .float .f64 0) (v3 := .float .f64 0) (v4 := .float .f64 0) (x := .int .i64 1) (g := w.heap.size + 1) rfl rfl rfl ((st_box B1.out _ _ _ _ _).1) rfl ?_
  exact ⟨by rw [stV_bad (by rw [HE.out]; decide), HE.out], (st_box B1.out _ _ _ _ _).2 _ _ K1.out (Nat.le_succ _)⟩

set_option maxRecDepth 100000 in
set_option maxHeartbeats 2000000 in
theorem sof_few (f : Fct) (A : Option Addr) (c : Nat) (w : World) (hx : SlArg w A f.xs c) (hok : f.ok = true) (hf : f.R - f.C < 1) :
    Calls Try.prog 75 #[facV f.C A f.xs.length c f.R f.T] w fun e w' => e = .returned (.tuple #[stV f, .int .i64 (stE f)]) ∧ Below w.heap.size w w' := by
  obtain ⟨k1, k2, kx, k4, k5, k6, k7, k8, ky⟩ := ok_len hok
  clear kx ky
  have hck := fun W h => check_any f.C A f.xs c f.R f.T W h
  rw [show checkS f.C f.xs f.R f.T = true from hok] at hck
  have HE := Lib.hid (stE_few hok hf)
  have K0 := Lib.hid ((((Keep.start w).more hx).alloc #[.int .i64 f.C, .slice A f.xs.length c, .int .i64 f.R, .int .i64 f.T] 24).alloc #[.int .i64 0, .float .f64 0, .float .f64 0, .float .f64 0, .float .f64 0] 48)
  unfold facV at hck ⊢
  have HCK := Lib.hid hck
  have t0 : decide (f.R - f.C < 1) = true := decide_eq_true hf
  clear hx hok hck
  go_enter Try.func75, Try.ntmps75
  go_wp2_with fail
  refine (HCK.out _ (K0.out.arg (.head _))).mono ?_
  rintro e w1 ⟨rfl, hb⟩
  have k1 := K0.out.call hb
  have hb1 : Bk w1 (w.heap.size + 1) 48 #[.int .i64 0, .float .f64 0, .float .f64 0, .float .f64 0, .float .f64 0] := by have := k1.box (.head _); rwa [World.size_alloc] at this
  obtain ⟨a0, a1, a2, a3⟩ := (k1.box (.tail _ (.head _))).c4
  have K1 := Lib.hid k1.below; have B1 := Lib.hid hb1
  obtain ⟨c0, c1, c2, c3, c4⟩ := hb1.c5
  obtain ⟨f0, f1, f2, f3, f4⟩ := hb1.f5
  clear hb k1 hb1 K0
  go_wp2
  refine ret_st2 (v0 := .int .i64 0) (v1 := .float .f64 0) (v2 := .float .f64 0) (v3 := .float .f64 0) (v4 := .float .f64 0) (x := .int .i64 5) (g := w.heap.size + 1) rfl rfl rfl ((st_box B1.out _ _ _ _ _).1) rfl ?_
  exact ⟨by rw [stV_bad (by rw [HE.out]; decide), HE.out], (st_box B1.out _ _ _ _ _).2 _ _ K1.out (Nat.le_succ _)⟩

end Go.Proofs.Ytigacobphgeeaaa
