/- Contracts of package bits: kind, Split, Top, Same. -/
import Derived.Test.YtkhnoffhbfcgfaaBb
import Derived.Test.YtkhnoffhbfcgfaaF
namespace Go.Proofs.Ytkhnoffhbfcgfaa
open Go.RowKit Lev

attribute [local go_sem] run_fbits run_frombits order_lt order_gt order_eq order_ne flt_or_feq flt_or_feq'

theorem results_tmp4 {fn : Func} {t u v x : Tmp} (h : fn.results = #[.tmp t, .tmp u, .tmp v, .tmp x]) (tmps : Array Value) (P : Program) (w : World) :
    (results fn tmps).run P w = .ok (.tuple #[tmps.getD t undef, tmps.getD u undef, tmps.getD v undef, tmps.getD x undef]) w := by simp [results, h]

theorem feq_self (b : Nat) : feq b b = decide (¬ INF < rg b) := by unfold feq; rw [decide_eq_decide]; omega

theorem ldexp_part (b : Nat) (h0 : rg b ≠ 0) (w : World) :
    Calls Try.prog 80 #[.float .f64 (partF b), .int .i64 53] w fun e w' => e = .returned (.float .f64 (1075 * 4503599627370496 + fracS b)) ∧ w = w' := by
  obtain ⟨h1, h2, h3, h4, h5, h6, h7⟩ := partF_facts h0
  have h := Ldexp_any (partF b) 53 (by omega) h5 (by omega) w
  rw [part_ldS h0] at h
  exact h

theorem ret_split4 {s t : Bool} {a b : Int} {i j k l : Int} (h : s = t) (h1 : a = b) (h2 : i = j) (h3 : k = l) : Ending.returned (.tuple #[.bool s, .int .u64 a, .int .i64 i, .int .i64 k]) = Ending.returned (.tuple #[.bool t, .int .u64 b, .int .i64 j, .int .i64 l]) := by rw [h, h1, h2, h3]
theorem ret_split {s t : Bool} {a b : Int} {i j : Int} (h : s = t) (h1 : a = b) (h2 : i = j) : Ending.returned (.tuple #[.bool s, .int .u64 a, .int .i64 i, .int .i64 1]) = Ending.returned (.tuple #[.bool t, .int .u64 b, .int .i64 j, .int .i64 1]) := by rw [h, h1, h2]

end Go.Proofs.Ytkhnoffhbfcgfaa
