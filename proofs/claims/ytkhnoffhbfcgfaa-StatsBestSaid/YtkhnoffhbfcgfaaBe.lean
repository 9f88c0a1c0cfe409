/- Contracts of package bits: Split, Pow, Scale, Top, In, Same. -/
import Derived.Test.YtkhnoffhbfcgfaaBd
import Derived.Test.YtkhnoffhbfcgfaaF
namespace Go.Proofs.Ytkhnoffhbfcgfaa
open Go.RowKit Lev

attribute [local go_sem] run_fbits run_frombits order_lt order_gt order_eq order_ne flt_or_feq flt_or_feq'

/-- What Split answers. -/
def splitV (b : Nat) : Value := .tuple #[.bool (nS b), .int .u64 (mS b : Int), .int .i64 (eS b), .int .i64 (kindS b)]

theorem splitV_1 {b : Nat} (h : kindS b = 1) : splitV b = .tuple #[.bool (sg b), .int .u64 (mantS b), .int .i64 (expS b), .int .i64 1] := by
  unfold splitV nS mS eS; rw [h]; simp
theorem splitV_3 {b : Nat} (h : kindS b = 3) : splitV b = .tuple #[.bool false, .int .u64 0, .int .i64 0, .int .i64 3] := by
  unfold splitV nS mS eS; rw [h]; simp
theorem splitV_0 {b : Nat} (h : kindS b = 0) : splitV b = .tuple #[.bool (sg b), .int .u64 0, .int .i64 0, .int .i64 0] := by
  unfold splitV nS mS eS; rw [h]; simp
theorem splitV_2 {b : Nat} (h : kindS b = 2) : splitV b = .tuple #[.bool (sg b), .int .u64 0, .int .i64 0, .int .i64 2] := by
  unfold splitV nS mS eS; rw [h]; simp

theorem kind_cases (b : Nat) : kindS b = 0 ∨ (kindS b = 1 ∧ fin b ∧ rg b ≠ 0) ∨ kindS b = 2 ∨ kindS b = 3 := by
  have hI := INF_eq
  by_cases h1 : INF < rg b
  · exact .inr (.inr (.inr (kindS_nan h1)))
  · by_cases h2 : rg b = INF
    · exact .inr (.inr (.inl (kindS_inf h2)))
    · by_cases h3 : rg b = 0
      · exact .inl (kindS_zero h3)
      · exact .inr (.inl ⟨kindS_fin (by unfold fin; omega) h3, by unfold fin; omega, h3⟩)

set_option maxHeartbeats 400000 in
theorem pow_any (k : Int) (w : World) :
    Calls Try.prog 75 #[.int .i64 k] w fun e w' => e = .returned (.float .f64 (makeF false 1 k)) ∧ w = w' := by
  have H := Lib.hid (fun w => make_any false 1 k (by decide) w)
  cases hb : makeB 1 k
  · have h0 : makeF false 1 k = 0 := by unfold makeF; rw [if_neg (by decide), if_neg (by rw [hb]; decide)]
    rw [h0]
    rw [h0, hb] at H
    clear hb h0
    go_enter Try.func75, Try.ntmps75
    go_wp2_with (go_at_call 78; refine (H.out _).mono ?_; rintro e w' ⟨rfl, rfl⟩)
    go_ret
    exact ⟨rfl, rfl⟩
  · rw [hb] at H
    clear hb
    go_enter Try.func75, Try.ntmps75
    go_wp2_with (go_at_call 78; refine (H.out _).mono ?_; rintro e w' ⟨rfl, rfl⟩)
    go_ret
    exact ⟨rfl, rfl⟩

theorem expS_hi {b : Nat} (h : fin b) : expS b ≤ 971 := by
  have := INF_eq
  unfold fin at h
  unfold expS; split <;> omega

end Go.Proofs.Ytkhnoffhbfcgfaa
