/- Contracts of package inverse: wild, and the library's ContainsFunc at it. -/
import Derived.Test.YtigacobphgeeaaaXc9
import Derived.Test.YtigacobphgeeaaaC9
set_option linter.unusedVariables false
namespace Lev
def wildS (x : Nat) : Bool := decide (INF ≤ rg x)
theorem wild_cn (x : Nat) : wildS x = wildS (cn x) := by
  unfold wildS
  by_cases h : INF < rg x
  · rw [cn_nan h, decide_eq_true (by omega), decide_eq_true (by decide)]
  · rw [cn_num h]
end Lev
namespace Go.Proofs.Ytigacobphgeeaaa
open Go.RowKit Go.Shelf Lev

set_option maxRecDepth 100000 in
theorem wild_any (b : Nat) (hb : b < 18446744073709551616) (w : World) :
    Calls Try.prog 41 #[.float .f64 b] w fun e w' => e = .returned (.bool (wildS b)) ∧ w = w' := by
  have h : wildS b = (decide (INF < rg b) || decide (rg b = INF)) := by
    unfold wildS
    by_cases h1 : INF < rg b
    · rw [decide_eq_true h1, decide_eq_true (show INF ≤ rg b by omega)]; rfl
    · rw [decide_eq_false h1, Bool.false_or]
      by_cases h2 : rg b = INF
      · rw [decide_eq_true h2, decide_eq_true (show INF ≤ rg b by omega)]
      · rw [decide_eq_false h2, decide_eq_false (show ¬ INF ≤ rg b by omega)]
  rw [h]
  clear h
  have HN := Lib.hid (fun W => isNaN_any b W)
  have HI := Lib.hid (fun W => isInf_any b hb W)
  generalize decide (INF < rg b) = p at *
  generalize decide (rg b = INF) = q at *
  cases p
  all_goals
    go_enter Try.func41, Try.ntmps41
    go_wp2_with (first
      | (go_at_call 73; refine (HN.out _).mono ?_; rintro e w' ⟨rfl, rfl⟩)
      | (go_at_call 74; refine (HI.out _).mono ?_; rintro e w' ⟨rfl, rfl⟩))
    go_ret
    exact ⟨by first | rfl | (cases q <;> rfl), rfl⟩

set_option maxHeartbeats 400000 in
theorem indexWild (A : Option Addr) (xs : List Nat) (c : Nat) (w : World) (hx : FlR w.heap.size w A xs) (hl : xs.length ≤ 1000) :
    Calls Try.prog 78 #[.slice A xs.length c, .func (.func 41) #[] #[]] w fun e w' => (∃ i : Int, e = .returned (.int .i64 i) ∧ (decide (0 ≤ i)) = xs.any (fun x => wildS x)) ∧ w = w' := by
  go_enter Try.func78, Try.ntmps78
  go_wp2
  go_loop [4, 8] (fun _ i => ∃ k : Nat, k ≤ xs.length ∧ i = .int .i64 (k : Int) ∧ ∀ j, j < k → wildS (xs[j]?.getD 0) = false) (fun _ i => xs.length - (intOf i).toNat)
  case atStart => exact ⟨0, Nat.zero_le _, rfl, fun j hj => absurd hj (Nat.not_lt_zero j)⟩
  case round =>
    obtain ⟨k, hk, rfl, hall⟩ := hrel
    have HA := Lib.hid hall; clear hall
    by_cases hlt : (k : Int) < (xs.length : Int)
    · obtain ⟨b, off, rfl, _, hc⟩ := hx.2 (by omega)
      have hcell := hc k (by omega)
      have hb := hx.lt k
      have KC := Lib.hid hc; clear hc
      have KX := Lib.hid hx; clear hx
      generalize hv : xs[k]?.getD 0 = v at *
      have KV := Lib.hid hv; clear hv
      cases hs : wildS v
      · go_wp2_with (go_at_call 41; refine (wild_any _ hb _).mono ?_; rintro e w' ⟨rfl, rfl⟩)
        go_round
        case rel =>
          refine ⟨k + 1, by omega, by go_num, fun j hj => ?_⟩
          rcases (by omega : j < k ∨ j = k) with h | h
          · exact HA.out j h
          · subst h; rw [KV.out]; exact hs
        case measure => simp [intOf]; omega
      · go_wp2_with (go_at_call 41; refine (wild_any _ hb _).mono ?_; rintro e w' ⟨rfl, rfl⟩)
        go_ret
        exact ⟨⟨k, rfl, by
          rw [decide_eq_true (by omega)]
          symm
          rw [List.any_eq_true]
          exact ⟨xs[k]'(by omega), List.getElem_mem _, by have := KV.out; rw [List.getElem?_eq_getElem (by omega)] at this; simp at this; rw [this, hs]⟩⟩, rfl⟩
    · go_wp2
      go_ret
      exact ⟨⟨-1, rfl, by
        rw [decide_eq_false (by decide)]
        symm
        rw [List.any_eq_false]
        intro x hxm
        rw [List.mem_iff_getElem] at hxm
        obtain ⟨j, hj, rfl⟩ := hxm
        have := HA.out j (by omega)
        rw [List.getElem?_eq_getElem hj] at this
        simpa using this⟩, rfl⟩

set_option maxHeartbeats 400000 in
theorem containsWild (A : Option Addr) (xs : List Nat) (c : Nat) (w : World) (hx : FlR w.heap.size w A xs) (hl : xs.length ≤ 1000) :
    Calls Try.prog 47 #[.slice A xs.length c, .func (.func 41) #[] #[]] w fun e w' => e = .returned (.bool (xs.any (fun x => wildS x))) ∧ w = w' := by
  have H := Lib.hid (indexWild A xs c w hx hl)
  clear hx
  go_enter Try.func47, Try.ntmps47
  go_wp2_with (go_at_call 78; refine H.out.mono ?_; rintro e w' ⟨⟨i, rfl, hi⟩, rfl⟩)
  go_ret
  exact ⟨ret_bool (by first | rfl | exact hi), rfl⟩

end Go.Proofs.Ytigacobphgeeaaa
