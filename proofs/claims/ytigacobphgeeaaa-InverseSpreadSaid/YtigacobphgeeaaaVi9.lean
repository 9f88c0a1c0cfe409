/- Contracts of Spread, the document's Spread and Same of layer 17. -/
import Derived.Test.YtigacobphgeeaaaVe9
import Derived.Test.YtigacobphgeeaaaG9
import Derived.Test.YtigacobphgeeaaaT9
namespace Lev
def spV (f : Fct) : Nat := if stE f = 0 then sqrtF (stVar f) else 0
theorem st_open (f : Fct) : ∃ (i : Int) (a t v x : Nat), stV f = .agg #[.int .i64 i, .float .f64 a, .float .f64 t, .float .f64 v, .float .f64 x] ∧ D.sqrt v = some (spV f) ∧ spV f < 18446744073709551616 ∧ a < 18446744073709551616 ∧ t < 18446744073709551616 ∧ v < 18446744073709551616 ∧ x < 18446744073709551616 ∧ -9223372036854775808 ≤ i ∧ i < 9223372036854775808 := by
  by_cases h : stE f = 0
  · have hok : f.ok = true := by
      cases e : f.ok
      · rw [stE_no e] at h; exact absurd h (by decide)
      · rfl
    have hf : 1 ≤ f.R - f.C := by
      by_cases h2 : f.R - f.C < 1
      · rw [stE_few hok h2] at h; exact absurd h (by decide)
      · omega
    obtain ⟨p1, p2, p3, p4, p5, p6, p7, p8, p9, p10, p11, p12, p13, p14, p15⟩ := st_facts hok hf
    have hc := ok_len hok
    have hs := sqrt_ok (s := stVar f) (by unfold fin at p11 ⊢; omega) p9
    refine ⟨_, _, _, _, _, stV_ok h, ?_, ?_, p3, p4, p5, p6, by omega, by omega⟩
    · unfold spV; rw [if_pos h]; exact hs.1
    · unfold spV; rw [if_pos h]; exact hs.2.2.1
  · refine ⟨_, _, _, _, _, stV_bad h, ?_, ?_, by decide, by decide, by decide, by decide, by decide, by decide⟩
    · unfold spV; rw [if_neg h]; decide
    · unfold spV; rw [if_neg h]; decide
end Lev
namespace Go.Proofs.Ytigacobphgeeaaa
open Go.RowKit Go.Shelf Lev

attribute [local go_sem] run_store_float

set_option maxRecDepth 100000 in
set_option maxHeartbeats 2000000 in
theorem sspread_any (f : Fct) (A : Option Addr) (c : Nat) (w : World) (hx : SlArg w A f.xs c) :
    Calls Try.prog 44 #[facV f.C A f.xs.length c f.R f.T] w fun e w' => e = .returned (.tuple #[.float .f64 (spV f), .int .i64 (stE f)]) ∧ Below w.heap.size w w' := by
  have hof := fun W h => sof_any f A c W h
  obtain ⟨i, a, t, v, x, hst, hsq, _⟩ := st_open f
  rw [hst] at hof
  have K0 := Lib.hid (((Keep.start w).more hx).alloc #[.int .i64 f.C, .slice A f.xs.length c, .int .i64 f.R, .int .i64 f.T] 24)
  unfold facV at hof ⊢
  have HOF := Lib.hid hof
  have HSQ := Lib.hid (fun W => sqrt_any v _ hsq W)
  clear hx hof hst hsq
  generalize stE f = E at *
  generalize spV f = S at *
  go_enter Try.func44, Try.ntmps44
  go_wp2_with fail
  refine (HOF.out _ (K0.out.arg (.head _))).mono ?_
  rintro e w1 ⟨rfl, hb⟩
  have K1 := Lib.hid (K0.out.call hb)
  clear hb
  go_wp2_with ((go_at_call 48; refine (HSQ.out _).mono ?_; rintro e w' ⟨rfl, rfl⟩))
  go_ret2
  exact ⟨rfl, (K1.out.alloc _ _).below⟩

end Go.Proofs.Ytigacobphgeeaaa
