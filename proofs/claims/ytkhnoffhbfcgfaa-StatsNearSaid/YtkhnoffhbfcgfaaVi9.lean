/- Contracts of Spread, the document's Spread and Same of layer 17. -/
import Derived.Test.YtkhnoffhbfcgfaaVe9
import Derived.Test.YtkhnoffhbfcgfaaG9
import Derived.Test.YtkhnoffhbfcgfaaT9
namespace Lev
def spV (f : Fct) : Nat := if stE f = 0 then sqrtF (stVar f) else 0
theorem st_open (f : Fct) : ∃ (i : Int) (a t v x : Nat), stV f = .agg #[.int .i64 i, .float .f64 a, .float .f64 t, .float .f64 v, .float .f64 x] ∧ D.sqrt v = some (spV f) ∧ spV f < 18446744073709551616 ∧ a < 18446744073709551616 ∧ t < 18446744073709551616 ∧ v < 18446744073709551616 ∧ x < 18446744073709551616 ∧ -9223372036854775808 ≤ i ∧ i < 9223372036854775808 := by
  by_cases h : stE f = 0
  · have hok : f.ok = true := by
      cases e : f.ok
      · rw [stE_no e] at h; exact absurd h (by decide)
      · rfl
    have hf : 1 ≤ f.R - f.C := by
      by_cases h2 : f.R - f.C < 1
      · rw [stE_few hok h2] at h; exact absurd h (by decide)
      · omega
    obtain ⟨p1, p2, p3, p4, p5, p6, p7, p8, p9, p10, p11, p12, p13, p14, p15⟩ := st_facts hok hf
    have hc := ok_len hok
    have hs := sqrt_ok (s := stVar f) (by unfold fin at p11 ⊢; omega) p9
    refine ⟨_, _, _, _, _, stV_ok h, ?_, ?_, p3, p4, p5, p6, by omega, by omega⟩
    · unfold spV; rw [if_pos h]; exact hs.1
    · unfold spV; rw [if_pos h]; exact hs.2.2.1
  · refine ⟨_, _, _, _, _, stV_bad h, ?_, ?_, by decide, by decide, by decide, by decide, by decide, by decide⟩
    · unfold spV; rw [if_neg h]; decide
    · unfold spV; rw [if_neg h]; decide
end Lev
namespace Go.Proofs.Ytkhnoffhbfcgfaa
open Go.RowKit Go.Shelf Lev

attribute [local go_sem] run_store_float

set_option maxRecDepth 100000 in
set_option maxHeartbeats 2000000 in
theorem sspread_any (f : Fct) (A : Option Addr) (c : Nat) (w : World) (hx : SlArg w A f.xs c) :
    Calls Try.prog 12 #[facV f.C A f.xs.length c f.R f.T] w fun e w' => e = .returned (.tuple #[.float .f64 (spV f), .int .i64 (stE f)]) ∧ Below w.heap.size w w' := by
  have hof := fun W h => sof_any f A c W h
  obtain ⟨i, a, t, v, x, hst, hsq, _⟩ := st_open f
  rw [hst] at hof
  have K0 := Lib.hid (((Keep.start w).more hx).alloc #[.int .i64 f.C, .slice A f.xs.length c, .int .i64 f.R, .int .i64 f.T] 24)
  unfold facV at hof ⊢
  have HOF := Lib.hid hof
  have HSQ := Lib.hid (fun W => sqrt_any v _ hsq W)
  clear hx hof hst hsq
  generalize stE f = E at *
  generalize spV f = S at *
  go_enter Try.func12, Try.ntmps12
  go_wp2_with fail
  refine (HOF.out _ (K0.out.arg (.head _))).mono ?_
  rintro e w1 ⟨rfl, hb⟩
  have K1 := Lib.hid (K0.out.call hb)
  clear hb
  go_wp2_with ((go_at_call 35; refine (HSQ.out _).mono ?_; rintro e w' ⟨rfl, rfl⟩))
  go_ret2
  exact ⟨rfl, (K1.out.alloc _ _).below⟩

set_option maxRecDepth 100000 in
set_option maxHeartbeats 2000000 in
theorem rspread_any (f : Fct) (A : Option Addr) (c : Nat) (w : World) (hx : SlArg w A f.xs c) :
    Calls Try.prog 13 #[facV f.C A f.xs.length c f.R f.T] w fun e w' => e = .returned (.tuple #[.float .f64 (spV f), .int .i64 (stE f)]) ∧ Below w.heap.size w w' := by
  have hof := fun W h => rof_any f A c W h
  obtain ⟨i, a, t, v, x, hst, hsq, _⟩ := st_open f
  rw [hst] at hof
  have K0 := Lib.hid (((Keep.start w).more hx).alloc #[.int .i64 f.C, .slice A f.xs.length c, .int .i64 f.R, .int .i64 f.T] 24)
  unfold facV at hof ⊢
  have HOF := Lib.hid hof
  have HSQ := Lib.hid (fun W => sqrt_any v _ hsq W)
  have hEz : stE f ≠ 0 → spV f = 0 := fun h => by unfold spV; rw [if_neg h]
  have HEZ := Lib.hid hEz
  clear hx hof hst hsq hEz
  generalize stE f = E at *
  generalize spV f = S at *
  by_cases hE : E = 0
  · subst hE
    go_enter Try.func13, Try.ntmps13
    go_wp2_with fail
    refine (HOF.out _ (K0.out.arg (.head _))).mono ?_
    rintro e w1 ⟨rfl, hb⟩
    have K1 := Lib.hid (K0.out.call hb)
    clear hb
    go_wp2_with ((go_at_call 35; refine (HSQ.out _).mono ?_; rintro e w' ⟨rfl, rfl⟩))
    go_ret2
    exact ⟨rfl, (K1.out.alloc _ _).below⟩
  · have hS := HEZ.out hE
    subst hS
    have t0 : (E != 0) = true := by rw [bne_iff_ne]; exact hE
    have HE := Lib.hid hE
    clear hE
    go_enter Try.func13, Try.ntmps13
    go_wp2_with fail
    refine (HOF.out _ (K0.out.arg (.head _))).mono ?_
    rintro e w1 ⟨rfl, hb⟩
    have K1 := Lib.hid (K0.out.call hb)
    clear hb
    go_wp2_with fail
    go_ret2
    exact ⟨rfl, (K1.out.alloc _ _).below⟩

set_option maxRecDepth 100000 in
set_option maxHeartbeats 2000000 in
theorem rssame_any (i : Int) (a t v x : Nat) (ha : a < 18446744073709551616) (ht : t < 18446744073709551616) (hv : v < 18446744073709551616) (hx : x < 18446744073709551616) (w : World) :
    Calls Try.prog 14 #[.agg #[.int .i64 i, .float .f64 a, .float .f64 t, .float .f64 v, .float .f64 x], .agg #[.int .i64 i, .float .f64 a, .float .f64 t, .float .f64 v, .float .f64 x]] w fun e w' => e = .returned (.bool true) ∧ Below w.heap.size w w' := by
  have H := Lib.hid (fun z (hz : z < 18446744073709551616) W => rsame_any z z hz hz W)
  have h1 := fun W => rsame_any a a ha ha W
  have h2 := fun W => rsame_any t t ht ht W
  have h3 := fun W => rsame_any v v hv hv W
  have h4 := fun W => rsame_any x x hx hx W
  rw [sameS_self] at h1 h2 h3 h4
  have H1 := Lib.hid h1; have H2 := Lib.hid h2; have H3 := Lib.hid h3; have H4 := Lib.hid h4
  have t0 : (i == i) = true := beq_self_eq_true _
  have K0 := Lib.hid (((Keep.start w).alloc #[.int .i64 i, .float .f64 a, .float .f64 t, .float .f64 v, .float .f64 x] 28).alloc #[.int .i64 i, .float .f64 a, .float .f64 t, .float .f64 v, .float .f64 x] 28)
  clear h1 h2 h3 h4 ha ht hv hx H
  go_enter Try.func14, Try.ntmps14
  go_wp2_with ((go_at_call 15; (first | (with_reducible refine (H1.out _).mono ?_) | (with_reducible refine (H2.out _).mono ?_) | (with_reducible refine (H3.out _).mono ?_) | (with_reducible refine (H4.out _).mono ?_)); rintro e w' ⟨rfl, rfl⟩))
  go_ret
  exact ⟨rfl, K0.out.below⟩

end Go.Proofs.Ytkhnoffhbfcgfaa
