/- Contracts of the document's answers for layer 1, and of bits.In. -/
import Derived.Test.YtkhnoffhbfcgfaaBe
namespace Go.Proofs.Ytkhnoffhbfcgfaa
open Go.RowKit Lev

attribute [local go_sem] run_fbits run_frombits order_lt order_gt order_eq order_ne flt_or_feq flt_or_feq'

theorem makeF_pow (E : Nat) (h1 : 1 ≤ E) (h2 : E ≤ 2046) : makeB 1 ((E : Int) - 1023) = true ∧ makeF false 1 ((E : Int) - 1023) = E * 4503599627370496 := by
  have hI := INF_eq
  have h3 := rm_pow (E - 1)
  have h4 : (E - 1) * 4503599627370496 + 4503599627370496 = E * 4503599627370496 := by omega
  have h5 : ((E - 1 : Nat) : Int) + 52 + -1074 = (E : Int) - 1023 := by omega
  rw [h4, h5] at h3
  have h6 : (rm (E * 4503599627370496) : Rat) * pw (-1074) = ((1 : Nat) : Rat) * pw ((E : Int) - 1023) := by
    rw [h3, show ((1 : Nat) : Rat) = 1 from rfl, Rat.one_mul]
  obtain ⟨a, b⟩ := make_yes (neg := false) (by omega) h6
  exact ⟨a, by rw [b, word_false]⟩
theorem pow_is {k : Int} {r : Nat} (h : makeF false 1 k = r) (w : World) :
    Calls Try.prog 75 #[.int .i64 k] w fun e w' => e = .returned (.float .f64 r) ∧ w = w' := by
  rw [← h]; exact pow_any k w
theorem p_400 : makeF false 1 (-400) = 2805742567851819008 := (makeF_pow 623 (by decide) (by decide)).2
theorem p400 : makeF false 1 400 = 6408622269748215808 := (makeF_pow 1423 (by decide) (by decide)).2

attribute [local go_sem] p_400 p400

theorem fle_lo (b : Nat) : fle 2805742567851819008 (rg b) = decide (2805742567851819008 ≤ rg b ∧ rg b ≤ INF) := by
  have h1 : ord 2805742567851819008 = 2805742567851819008 := by decide
  have h2 : rg 2805742567851819008 = 2805742567851819008 := by decide
  unfold fle
  rw [ord_rg, h1, h2, rg_rg, decide_eq_decide, INF_eq]; omega
theorem fle_hi (b : Nat) : fle (rg b) 6408622269748215808 = decide (rg b ≤ 6408622269748215808) := by
  have h1 : ord 6408622269748215808 = 6408622269748215808 := by decide
  have h2 : rg 6408622269748215808 = 6408622269748215808 := by decide
  unfold fle
  rw [ord_rg, h1, h2, rg_rg, decide_eq_decide, INF_eq]; omega

end Go.Proofs.Ytkhnoffhbfcgfaa
