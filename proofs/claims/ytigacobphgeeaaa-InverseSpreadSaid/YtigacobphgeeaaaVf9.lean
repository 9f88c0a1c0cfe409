/- Plain: what is left over by any answers; contracts of add and end at any floats. -/
import Derived.Test.YtigacobphgeeaaaVe9
import Derived.Test.YtigacobphgeeaaaC9
set_option linter.unusedVariables false
namespace Lev
/-- What is left of row i behind j answers. -/
def msD (f : Fct) (xs : List Nat) (i : Nat) : Nat → Nat
  | 0 => getS f (i : Int) f.C
  | j + 1 => arS .sub (msD f xs i j) (arS .mul (getS f (i : Int) ((i + j : Nat) : Int)) (xs[i + j]?.getD 0))
def msR (f : Fct) (xs : List Nat) (i : Nat) : Nat := msD f xs i (f.C.toNat - i)
def msS (f : Fct) (xs : List Nat) : Nat → Nat
  | 0 => 0
  | i + 1 => arS .add (msS f xs i) (arS .mul (msR f xs i) (msR f xs i))
def msT (f : Fct) (xs : List Nat) : Nat := arS .add (msS f xs f.C.toNat) (stRest f)
def msE (f : Fct) (xs : List Nat) : Int := if f.ok = false ∨ (xs.length : Int) ≠ f.C then 1 else if INF ≤ rg (msT f xs) then 2 else 0
def msV (f : Fct) (xs : List Nat) : Nat := if msE f xs = 0 then msT f xs else 0
theorem cn_cnv (a : Nat) : cn (cn a) = cn a := by
  by_cases h : INF < rg a
  · rw [cn_nan h]; exact cn_nan nanc_nan
  · rw [cn_num h, cn_num h]
theorem cnArS (op : Go.BinOp) (a b : Nat) : cn (arS op a b) = arS op a b := by
  unfold arS
  cases Go.floatBits op .f64 a b with
  | some r => exact cn_cnv r
  | none => exact cn_nan nanc_nan
/-- An operation hangs on its operands alone, NaNs made one. -/
theorem arS_both (op : Go.BinOp) (hop : op = .add ∨ op = .sub ∨ op = .mul ∨ op = .quo) {a b a' b' : Nat} (ha : cn a = a') (hb : cn b = b') (ha' : cn a' = a') (hb' : cn b' = b') : arS op a b = arS op a' b' := by
  rw [arS_cn op hop a b, arS_cn op hop a' b', ha, hb, ha', hb']
theorem cn_small {x : Nat} (h : small x = true) : cn x = x := cn_num (by have := small_fin h; unfold fin at this; omega)
theorem cn_msD {f : Fct} (h : f.ok = true) (xs : List Nat) (i : Nat) : ∀ j, cn (msD f xs i j) = msD f xs i j
  | 0 => cn_small (getS_small h _ _)
  | j + 1 => cnArS _ _ _
theorem cn_msS (f : Fct) (xs : List Nat) : ∀ i, cn (msS f xs i) = msS f xs i
  | 0 => cn_num (by show ¬ INF < rg 0; decide)
  | i + 1 => cnArS _ _ _
end Lev
namespace Go.Proofs.Ytigacobphgeeaaa
open Go.RowKit Go.Shelf Lev

attribute [local go_sem] run_store_float run_add_all run_sub_all run_mul_all run_quo_all

set_option maxHeartbeats 1000000 in
theorem sadd_cn (b s x : Nat) (w : World) (hc : w.cell? ⟨b, 0, none⟩ = some (.float .f64 s)) (hf : w.frozen? ⟨b, 0, none⟩ = false) :
    Calls Try.prog 89 #[.pointer (some ⟨b, 0, none⟩), .float .f64 x] w fun e w' => e = .returned (.tuple #[]) ∧ ∃ r n, w' = (w.drewN n).setCell ⟨b, 0, none⟩ (.float .f64 r) ∧ cn r = arS .add s (arS .mul x x) ∧ r < 18446744073709551616 := by
  go_enter Try.func89, Try.ntmps89
  go_wp2
  go_end0
  exact ⟨rfl, _, _, rfl, by rw [cn_arV, arS_cn .add (by simp), cn_arV, arS_cn .add (by simp) s, cnArS], arV_lt _ _ _ _⟩

set_option maxHeartbeats 1000000 in
theorem send_cn (b s x : Nat) (z : Value) (T : TypeId) (w : World) (hb : Bk w b T #[.float .f64 s, z]) :
    Calls Try.prog 91 #[.pointer (some ⟨b, 0, none⟩), .float .f64 x] w fun e w' => e = .returned (.tuple #[]) ∧ ∃ q r n m, w' = (((w.drewN n).setCell ⟨b, 1, none⟩ (.float .f64 q)).drewN m).setCell ⟨b, 0, none⟩ (.float .f64 r) ∧ cn r = arS .add s (arS .mul x x) ∧ r < 18446744073709551616 := by
  have c0 : w.cell? ⟨b, 0, none⟩ = some (.float .f64 s) := hb.cell 0
  have c1 : w.cell? ⟨b, 1, none⟩ = some z := hb.cell 1
  have f0 := hb.frozen 0
  have f1 := hb.frozen 1
  have HB := Lib.hid hb
  clear hb
  go_enter Try.func91, Try.ntmps91
  go_wp2_with fail
  refine (sadd_cn b s x _ (((HB.out.drewN _).set 1 _).cell 0) (((HB.out.drewN _).set 1 _).frozen 0)).mono ?_
  rintro e w' ⟨rfl, r, m, rfl, hr, hl⟩
  have HR := Lib.hid (And.intro hr hl)
  clear hr hl
  go_wp2
  go_end0
  exact ⟨rfl, _, r, _, m, rfl, HR.out.1, HR.out.2⟩

end Go.Proofs.Ytigacobphgeeaaa
