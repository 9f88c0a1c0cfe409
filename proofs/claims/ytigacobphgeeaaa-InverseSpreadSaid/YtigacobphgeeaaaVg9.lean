/- Contracts of package stats: Miss. -/
import Derived.Test.YtigacobphgeeaaaVf9
import Derived.Test.YtigacobphgeeaaaC9
import Derived.Deep.RegionWith
set_option linter.unusedVariables false
namespace Go.Proofs.Ytigacobphgeeaaa
open Go.RowKit Go.Shelf Lev

attribute [local go_sem] run_store_float run_add_all run_sub_all run_mul_all run_quo_all

theorem cn_fin {x : Nat} (h : fin x) : cn x = x := cn_num (by unfold fin at h; omega)
theorem rho_sq {f : Fct} (h : f.ok = true) : arS .mul (getS f f.C f.C) (getS f f.C f.C) = stRest f := by
  have hc := ok_len h
  have e : stRest f = fmul (getS f f.C f.C) (getS f f.C f.C) := by unfold stRest stT; rw [show ((f.C.toNat : Nat) : Int) = f.C from by omega]
  have hq := sq_bd (getS_small h f.C f.C)
  have h1 : floatBits .mul .f64 (getS f f.C f.C) (getS f f.C f.C) = some (fmul (getS f f.C f.C) (getS f f.C f.C)) := hq.1
  rw [e]
  unfold arS
  rw [h1]
  exact cn_fin hq.2.1
theorem drewMany {w W W' : World} {n m : Nat} (h : W = w.drewN n) (h2 : W' = W.drewN m) : W' = w.drewN (n + m) := by rw [h2, h, World.drewN_drewN]
theorem ms_cases {f : Fct} {xs : List Nat} {r : Nat} (hok : f.ok = true) (hl : (xs.length : Int) = f.C) (hr : cn r = msT f xs) :
    (INF < rg r ∧ msE f xs = 2 ∧ msV f xs = 0) ∨ (¬ INF < rg r ∧ rg r = INF ∧ msE f xs = 2 ∧ msV f xs = 0) ∨ (¬ INF < rg r ∧ ¬ rg r = INF ∧ msE f xs = 0 ∧ msV f xs = r) := by
  have hn : ¬ (f.ok = false ∨ (xs.length : Int) ≠ f.C) := by rw [hok]; simp [hl]
  by_cases h1 : INF < rg r
  · left
    have h2 : INF ≤ rg (msT f xs) := by rw [← hr, cn_nan h1]; decide
    have e : msE f xs = 2 := by unfold msE; rw [if_neg hn, if_pos h2]
    exact ⟨h1, e, by unfold msV; rw [e]; rfl⟩
  · right
    have hr' : r = msT f xs := by rw [← hr, cn_num h1]
    by_cases h2 : rg r = INF
    · left
      have h3 : INF ≤ rg (msT f xs) := by rw [← hr', h2]; exact Nat.le_refl _
      have e : msE f xs = 2 := by unfold msE; rw [if_neg hn, if_pos h3]
      exact ⟨h1, h2, e, by unfold msV; rw [e]; rfl⟩
    · right
      have h3 : ¬ INF ≤ rg (msT f xs) := by rw [← hr']; omega
      have e : msE f xs = 0 := by unfold msE; rw [if_neg hn, if_neg h3]
      exact ⟨h1, h2, e, by unfold msV; rw [e]; exact hr'.symm⟩
def MsRel (f : Fct) (xs : List Nat) (i K : Nat) (d : Value) : Prop := ∃ b, d = .float .f64 b ∧ cn b = msD f xs i (K - i) ∧ b < 18446744073709551616

end Go.Proofs.Ytigacobphgeeaaa
