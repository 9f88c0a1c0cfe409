/- Contracts of the document's answers for layer 7: Size, At, Check. -/
import Derived.Test.YtcoaachajdomcaaCc
import Derived.Test.YtcoaachajdomcaaMb
import Derived.Deep.QuietTactic
import Derived.BigQuiet
namespace Go.Proofs.Ytcoaachajdomcaa
open Go.RowKit Go.Shelf Lev

attribute [local go_sem] order_lt order_gt order_eq order_ne flt_or_feq flt_or_feq' p420

theorem q_of {P : Program} {f : FuncId} {args : Array Value} {w : World} {n : Nat} {v : Value} (h : Calls P f args (w.drewN n) fun e w' => e = .returned v ∧ w.drewN n = w') :
    Calls P f args (w.drewN n) fun e w'' => e = .returned v ∧ ∃ m, w'' = w.drewN m := h.mono fun _ _ ⟨he, hm⟩ => ⟨he, n, hm.symm⟩

theorem _root_.Go.RowKit.Below.drewN {B : Nat} {a w : World} (h : Below B a w) (n : Nat) : Below B a (w.drewN n) := ⟨h.os, h.tape, h.output, h.size, h.block⟩

theorem flt_small (b : Nat) : flt 6498694262295625728 (rg b) = decide (6498694262295625728 < rg b ∧ rg b ≤ INF) := by
  have h1 : ord 6498694262295625728 = 6498694262295625728 := by decide
  have h2 : rg 6498694262295625728 = 6498694262295625728 := by decide
  unfold flt
  rw [ord_rg, h1, h2, rg_rg, decide_eq_decide, INF_eq]; omega

theorem flt_small_fin {b : Nat} (hf : fin b) : flt 6498694262295625728 (rg b) = !small b := by
  rw [flt_small]; unfold small; unfold fin at hf
  rw [← decide_not, decide_eq_decide]; omega
theorem ret_t' {a b : Bool} (h : a = b) : Ending.returned (.bool a) = Ending.returned (.bool b) := by rw [h]

theorem size_ne {C : Int} (h1 : 1 ≤ C) (h6 : C ≤ 6) : sizeI C ≠ 0 := by
  rw [size_st (N := (C + 1).toNat) h1 h6 (by omega)]
  have := st_all (C + 1).toNat
  have h3 : 2 ≤ (C + 1).toNat := by omega
  have := Nat.mul_le_mul h3 h3
  omega

theorem ret_ib {i j : Int} {s t : Bool} (h : i = j) (h2 : s = t) : Ending.returned (.tuple #[.int .i64 i, .bool s]) = Ending.returned (.tuple #[.int .i64 j, .bool t]) := by rw [h, h2]

theorem kindS_gt (b : Nat) : decide (1 < kindS b) = !decide (fin b) := by
  rw [← decide_not, decide_eq_decide]
  have := kindS_le (b := b)
  rw [← this]; omega
theorem nS_fin {b : Nat} (h : fin b) : nS b = sg b := by
  have := kindS_le.2 h
  unfold nS; rw [decide_eq_true (by omega), Bool.true_and]

end Go.Proofs.Ytcoaachajdomcaa
