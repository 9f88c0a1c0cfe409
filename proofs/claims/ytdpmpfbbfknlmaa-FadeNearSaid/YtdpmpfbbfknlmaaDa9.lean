/- Contracts of package fade: May, the closure, each. -/
import Derived.Test.YtdpmpfbbfknlmaaC9
import Derived.Test.YtdpmpfbbfknlmaaT9
import Derived.Test.YtdpmpfbbfknlmaaM9
import Derived.Maps.AppendAt
namespace Go.Proofs.Ytdpmpfbbfknlmaa
open Go.RowKit Go.Shelf Lev

attribute [local go_sem] order_lt order_gt order_eq order_ne flt_or_feq flt_or_feq'

theorem p_20 : makeF false 1 (-20) = 4517110426252607488 := (makeF_pow 1003 (by decide) (by decide)).2
attribute [local go_sem] p_20

set_option maxHeartbeats 400000 in
theorem may_any (b : Nat) (w : World) :
    Calls Try.prog 12 #[.float .f64 b] w fun e w' => e = .returned (.bool (mayS b)) ∧ w = w' := by
  unfold mayS
  cases h : fle 4517110426252607488 b
  · go_enter Try.func12, Try.ntmps12
    go_wp2_with (go_at_call 29; refine (pow_any _ _).mono ?_; rintro e w' ⟨rfl, rfl⟩)
    go_ret
    exact ⟨rfl, rfl⟩
  · go_enter Try.func12, Try.ntmps12
    go_wp2_with (go_at_call 29; refine (pow_any _ _).mono ?_; rintro e w' ⟨rfl, rfl⟩)
    go_ret
    exact ⟨rfl, rfl⟩

set_option maxHeartbeats 400000 in
theorem closure_any (x b : Nat) (hx : fin x) (hb : mayS b = true) (B : Nat) (w : World) (hc : w.cell? ⟨B, 0, none⟩ = some (.float .f64 b)) :
    Calls Try.prog 27 #[.float .f64 x, .pointer (some ⟨B, 0, none⟩)] w fun e w' => e = .returned (.float .f64 (fmul x b)) ∧ w = w' := by
  obtain ⟨r, hr1, hr2, _⟩ := fmul_spec hx hb
  have hm : floatBits .mul .f64 x b = some (fmul x b) := by rw [hr2]; exact hr1
  have hrun := fun (w : World) => run_float_arith (P := Try.prog) w .mul 25 .f64 _ _ _ hm
  clear hm hr1 hr2 hx hb
  go_enter Try.func27, Try.ntmps27
  go_wp2
  go_ret
  exact ⟨rfl, rfl⟩

theorem info_f64 : (Try.prog.info? 25).map (fun i => (i.zero, i.size, i.bytes)) = some (some (.float .f64 0), 1, 8) := by kernel_rfl

set_option maxRecDepth 100000 in
set_option maxHeartbeats 2000000 in
theorem each_any (A : Option Addr) (xs : List Nat) (c : Nat) (b B : Nat) (w : World) (hx : SlArg w A xs c) (hf : ∀ x ∈ xs, fin x) (hb : mayS b = true) (hl : xs.length ≤ 100) (hB : w.cell? ⟨B, 0, none⟩ = some (.float .f64 b)) (hBs : B < w.heap.size) :
    Calls Try.prog 26 #[.slice A xs.length c, .func (.func 27) #[] #[.pointer (some ⟨B, 0, none⟩)]] w fun e w' => (∃ v, e = .returned v ∧ MadeF w.heap.size w' v (fadeL b xs)) ∧ Below w.heap.size w w' := by
  obtain ⟨i0, hi, hz0, hz1, hz2⟩ := info_parts info_f64
  go_enter Try.func26, Try.ntmps26
  go_wp2
  go_loopw [5, 10] (fun v i wr => ∃ k : Nat, k ≤ xs.length ∧ i = .int .i64 (k : Int) ∧ wr.ownsRow w.heap.size 25 1 v k ((fadeL b (xs.take k)).map (Value.float .f64)) ∧ Below w.heap.size w wr) (fun _ i _ => xs.length - (intOf i).toNat)
  case atStart => exact ⟨0, Nat.zero_le _, rfl, World.ownsRow_nil _ _ _ _, Below.refl _ _⟩
  case round =>
    obtain ⟨k, hk, rfl, hown, hbel⟩ := hrel
    by_cases hlt : (k : Int) < (xs.length : Int)
    · have hxr := hx.reads.below hbel
      obtain ⟨bl, off, rfl, hbl, hc⟩ := hxr.2 (by omega)
      have hcell := hc k (by omega)
      have hBw : wr.cell? ⟨B, 0, none⟩ = some (.float .f64 b) := (hbel.cell (p := ⟨B, 0, none⟩) hBs).trans hB
      have hfk : fin (xs[k]?.getD 0) := by rw [List.getElem?_eq_getElem (by omega)]; exact hf _ (List.getElem_mem _)
      have hfad : fadeL b (xs.take (k + 1)) = fadeL b (xs.take k) ++ [fmul (xs[k]?.getD 0) b] := by
        unfold fadeL
        rw [List.take_succ_eq_append_getElem (by omega), List.map_append, List.getElem?_eq_getElem (by omega)]; rfl
      have hsz := hbel.size
      have KF := Lib.hid hfad; clear hfad
      have KC := Lib.hid hc; clear hc
      have KX := Lib.hid hxr; clear hxr
      have KB := Lib.hid hB; have KH := Lib.hid hx; have KFF := Lib.hid hf
      generalize xs[k]?.getD 0 = x at *
      have HC := Lib.hid hfk; clear hfk
      clear hB hx hf
      go_wp2_with (first
        | (go_at_call 27; refine (closure_any x b HC.out hb B _ hBw).mono ?_; rintro e w' ⟨rfl, rfl⟩)
        | (at_builtin; refine wpList_append_own _ rfl _ _ 22 rfl w.heap.size 25 i0 (.float .f64 0) 1 8 Try.underlying22 hi hz0 hz1 hz2 rfl (by decide) _ _ _ rfl (hown.alloc _) ⟨wr.heap.size, 0, none⟩ 1 1 [.float .f64 (fmul x b)] rfl rfl (cell_one_new _ _ _) (by simp [Value.oneCell']) (by unfold maxLen; omega) (by omega) (by simp; omega) ?_; intro v' w1 hown' hgrow _))
      go_roundw
      case rel =>
        refine ⟨k + 1, by omega, by go_num, by rw [KF.out, List.map_append]; exact hown', ?_⟩
        exact (hbel.alloc hsz _).grown hgrow (by simp; omega) (own_from hown)
      case measure => simp [intOf]; omega
    · obtain rfl : k = xs.length := by omega
      have hown2 := hown
      rw [List.take_length, ← fadeL_length b xs] at hown2
      have hmade := made_of_own hown2 (fun y hy => by
        unfold fadeL at hy
        rw [List.mem_map] at hy
        obtain ⟨x, hx0, rfl⟩ := hy
        exact (fmul_facts (hf x hx0) hb).2.2)
      have KM := Lib.hid hmade
      clear hmade hown hown2
      go_wp2
      go_ret
      exact ⟨⟨_, rfl, KM.out⟩, hbel⟩

end Go.Proofs.Ytdpmpfbbfknlmaa
