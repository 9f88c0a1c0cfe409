/- The walks of KernDots: sizes. -/
import Derived.Test.YtfnhcgpdlhndhaaZ
import Derived.Test.YtfnhcgpdlhndhaaE
import Derived.Test.YtfnhcgpdlhndhaaG
import Derived.OneCell
set_option linter.unusedVariables false
namespace Lev
def absL (xs : List Nat) : List Nat := (List.range xs.length).map (absT xs)
theorem absL_len (xs : List Nat) : (absL xs).length = xs.length := by unfold absL; simp
theorem absL_ge (xs : List Nat) {i : Nat} (hi : i < xs.length) : ge (absL xs) i = rg (ge xs i) := by
  unfold absL ge
  rw [List.getElem?_map, List.getElem?_range hi]; rfl
end Lev
namespace Go.Proofs.Ytfnhcgpdlhndhaa
open Go.RowKit Go.Shelf Lev

set_option maxRecDepth 100000 in
set_option maxHeartbeats 1000000 in
theorem sizes05_any (xs : List Nat) (A : Option Addr) (c : Nat) (w : World) (hx : SlArg w A xs c) (hl : xs.length ≤ 40) :
    Calls Try.prog 14 #[.slice A xs.length c] w fun e w' => (∃ R m, e = .returned (.slice R (absL xs).length m) ∧ SlArg w' R (absL xs) m) ∧ Below w.heap.size w w' := by
  have HX := Lib.hid hx
  obtain ⟨i0, hi, hz0, hz1, hz2⟩ := info_parts info_f64'
  have HI := Lib.hid hi; have HZ0 := Lib.hid hz0; have HZ1 := Lib.hid hz1; have HZ2 := Lib.hid hz2
  clear hx hi hz0 hz1 hz2
  go_enter Try.func14, Try.ntmps14
  go_wp2_with fail
  go_loopw [3, 4] (fun v i wr => ∃ k : Nat, k ≤ xs.length ∧ i = .int .i64 (k : Int) ∧ wr.ownsRow w.heap.size 24 1 v k (((List.range k).map (absT xs)).map (Value.float .f64)) ∧ Below w.heap.size w wr) (fun _ i _ => xs.length - (intOf i).toNat)
  case atStart => exact ⟨0, Nat.zero_le _, rfl, World.ownsRow_nil _ _ _ _, Below.refl _ _⟩
  case round =>
    obtain ⟨k, hk, rfl, hown, hbel⟩ := hrel
    by_cases hlt : (k : Int) < (xs.length : Int)
    · have hxk := HX.out.below hbel
      obtain ⟨b, off, rfl, hbl, hc⟩ := hxk.reads.2 (by omega)
      have hcell : wr.cell? ⟨b, off + k, none⟩ = some (.float .f64 (ge xs k)) := hc k (by omega)
      have hx64 : ge xs k < 18446744073709551616 := hxk.reads.lt k
      have hap : (List.range (k + 1)).map (absT xs) = (List.range k).map (absT xs) ++ [rg (ge xs k)] := by rw [List.range_succ, List.map_append]; rfl
      have HAP := Lib.hid hap; have H64 := Lib.hid hx64
      have HO := Lib.hid hown; have HB := Lib.hid hbel; have HSZ := Lib.hid hbel.size
      generalize ge xs k = x at *
      clear hc hown hbel hxk hap hx64
      go_wp2_with (first
        | (go_at_call 19; refine (abs_any _ H64.out _).mono ?_; rintro e w' ⟨rfl, rfl⟩)
        | (at_builtin; refine wpList_append_own _ rfl _ _ 22 rfl w.heap.size 24 i0 (.float .f64 0) 1 8 Try.underlying22 HI.out HZ0.out HZ1.out HZ2.out rfl (by decide) _ _ _ rfl (HO.out.alloc _) ⟨wr.heap.size, 0, none⟩ 1 1 [_] rfl rfl (cell_one_new _ _ _) (by simp [Value.oneCell']) (by unfold maxLen; omega) (by omega) (by have := HSZ.out; simp; omega) ?_; intro v' w1 hown' hgrow _))
      go_roundw
      case rel =>
        refine ⟨k + 1, by omega, by go_num, by rw [HAP.out, List.map_append]; exact hown', ?_⟩
        exact (HB.out.alloc HSZ.out _).grown hgrow (by have := HSZ.out; simp; omega) (own_from HO.out)
      case measure => simp [intOf]; omega
    · obtain rfl : k = xs.length := by omega
      have mk : ∀ v, wr.ownsRow w.heap.size 24 1 v xs.length (((List.range xs.length).map (absT xs)).map (Value.float .f64)) → MadeF w.heap.size wr v (absL xs) := fun v h => made_of_own (by rw [absL_len]; exact h) (fun y hy => by
        unfold absL at hy
        rw [List.mem_map] at hy
        obtain ⟨i, hi, rfl⟩ := hy
        have := rg_lt (ge xs i)
        unfold absT; omega)
      have hmade := mk _ hown
      clear mk
      obtain ⟨A2, c2, rfl, hs2, ha2⟩ := hmade
      have KS := Lib.hid hs2; have KB := Lib.hid hbel
      clear hown hs2 ha2 hbel
      go_wp2
      go_ret
      exact ⟨⟨_, _, rfl, KS.out⟩, KB.out⟩
end Go.Proofs.Ytfnhcgpdlhndhaa
