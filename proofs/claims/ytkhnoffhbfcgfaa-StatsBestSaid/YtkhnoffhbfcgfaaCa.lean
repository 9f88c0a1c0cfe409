/- Contracts of package tri: Size, large, and of the library's ContainsFunc at large. -/
import Derived.Test.YtkhnoffhbfcgfaaMa
import Derived.Deep.QuietTactic
import Derived.BigQuiet
namespace Go.Proofs.Ytkhnoffhbfcgfaa
open Go.RowKit Lev

attribute [local go_sem] run_fbits run_frombits order_lt order_gt order_eq order_ne flt_or_feq flt_or_feq'

theorem p420 : makeF false 1 420 = 6498694262295625728 := (makeF_pow 1443 (by decide) (by decide)).2
theorem fle_small (b : Nat) : fle (rg b) 6498694262295625728 = small b := by
  have h1 : ord 6498694262295625728 = 6498694262295625728 := by decide
  have h2 : rg 6498694262295625728 = 6498694262295625728 := by decide
  unfold fle small
  rw [ord_rg, h1, h2, rg_rg, decide_eq_decide, INF_eq]; omega
attribute [local go_sem] p420 fle_small

set_option maxHeartbeats 400000 in
theorem large_any (b : Nat) (hb : b < 18446744073709551616) (w : World) :
    Calls Try.prog 59 #[.float .f64 b] w fun e w' => e = .returned (.bool (!small b)) ∧ w = w' := by
  go_enter Try.func59, Try.ntmps59
  go_wp2_with (first
    | (go_at_call 41; refine (abs_any _ hb _).mono ?_; rintro e w' ⟨rfl, rfl⟩)
    | (go_at_call 75; refine (pow_any _ _).mono ?_; rintro e w' ⟨rfl, rfl⟩))
  go_ret
  exact ⟨rfl, rfl⟩

set_option maxHeartbeats 400000 in
theorem size_any (c : Int) (w : World) :
    Calls Try.prog 55 #[.int .i64 c] w fun e w' => e = .returned (.int .i64 (sizeI c)) ∧ w = w' := by
  by_cases h1 : c < 1
  · have e : sizeI c = 0 := by unfold sizeI; rw [if_pos (.inl h1)]
    rw [e]
    go_enter Try.func55, Try.ntmps55
    go_wp2
    go_ret
    exact ⟨rfl, rfl⟩
  · by_cases h2 : 6 < c
    · have e : sizeI c = 0 := by unfold sizeI; rw [if_pos (.inr h2)]
      rw [e]
      go_enter Try.func55, Try.ntmps55
      go_wp2
      go_ret
      exact ⟨rfl, rfl⟩
    · rcases (by omega : c = 1 ∨ c = 2 ∨ c = 3 ∨ c = 4 ∨ c = 5 ∨ c = 6) with h | h | h | h | h | h
      all_goals
        subst h
        clear h1 h2
        go_enter Try.func55, Try.ntmps55
        go_wp2
        go_ret
        exact ⟨rfl, rfl⟩

/-- The function value of large. -/
def largeV : Value := .func (.func 59) #[] #[]

set_option maxHeartbeats 400000 in
theorem indexLarge (A : Option Addr) (xs : List Nat) (c : Nat) (w : World) (hx : FlR w.heap.size w A xs) (hl : xs.length ≤ 1000) :
    Calls Try.prog 74 #[.slice A xs.length c, .func (.func 59) #[] #[]] w fun e w' => (∃ i : Int, e = .returned (.int .i64 i) ∧ (decide (0 ≤ i)) = xs.any (fun x => !small x)) ∧ w = w' := by
  go_enter Try.func74, Try.ntmps74
  go_wp2
  go_loop [4, 8] (fun _ i => ∃ k : Nat, k ≤ xs.length ∧ i = .int .i64 (k : Int) ∧ ∀ j, j < k → small (xs[j]?.getD 0) = true) (fun _ i => xs.length - (intOf i).toNat)
  case atStart => exact ⟨0, Nat.zero_le _, rfl, fun j hj => absurd hj (Nat.not_lt_zero j)⟩
  case round =>
    obtain ⟨k, hk, rfl, hall⟩ := hrel
    have HA := Lib.hid hall; clear hall
    by_cases hlt : (k : Int) < (xs.length : Int)
    · obtain ⟨b, off, rfl, _, hc⟩ := hx.2 (by omega)
      have hcell := hc k (by omega)
      have hb := hx.lt k
      have KC := Lib.hid hc; clear hc
      have KX := Lib.hid hx; clear hx
      generalize hv : xs[k]?.getD 0 = v at *
      have KV := Lib.hid hv; clear hv
      cases hs : small v
      · go_wp2_with (go_at_call 59; refine (large_any _ hb _).mono ?_; rintro e w' ⟨rfl, rfl⟩)
        go_ret
        exact ⟨⟨k, rfl, by
          rw [decide_eq_true (by omega)]
          symm
          rw [List.any_eq_true]
          exact ⟨xs[k]'(by omega), List.getElem_mem _, by have := KV.out; rw [List.getElem?_eq_getElem (by omega)] at this; simp at this; rw [this, hs]; rfl⟩⟩, rfl⟩
      · go_wp2_with (go_at_call 59; refine (large_any _ hb _).mono ?_; rintro e w' ⟨rfl, rfl⟩)
        go_round
        case rel =>
          refine ⟨k + 1, by omega, by go_num, fun j hj => ?_⟩
          rcases (by omega : j < k ∨ j = k) with h | h
          · exact HA.out j h
          · subst h; rw [KV.out]; exact hs
        case measure => simp [intOf]; omega
    · go_wp2
      go_ret
      exact ⟨⟨-1, rfl, by
        rw [decide_eq_false (by decide)]
        symm
        rw [List.any_eq_false]
        intro x hxm
        rw [List.mem_iff_getElem] at hxm
        obtain ⟨j, hj, rfl⟩ := hxm
        have := HA.out j (by omega)
        rw [List.getElem?_eq_getElem hj] at this
        simpa using this⟩, rfl⟩

set_option maxHeartbeats 400000 in
theorem containsLarge (A : Option Addr) (xs : List Nat) (c : Nat) (w : World) (hx : FlR w.heap.size w A xs) (hl : xs.length ≤ 1000) :
    Calls Try.prog 58 #[.slice A xs.length c, .func (.func 59) #[] #[]] w fun e w' => e = .returned (.bool (xs.any (fun x => !small x))) ∧ w = w' := by
  have H := Lib.hid (indexLarge A xs c w hx hl)
  clear hx
  go_enter Try.func58, Try.ntmps58
  go_wp2_with (go_at_call 74; refine H.out.mono ?_; rintro e w' ⟨⟨i, rfl, hi⟩, rfl⟩)
  go_ret
  exact ⟨ret_bool (by first | rfl | exact hi), rfl⟩

end Go.Proofs.Ytkhnoffhbfcgfaa
