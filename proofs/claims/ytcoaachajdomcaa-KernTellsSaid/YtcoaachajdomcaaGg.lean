/- The document's answer for Axpy. -/
import Derived.Test.YtcoaachajdomcaaGf
import Derived.Deep.RegionLaw
import Derived.Deep.AppendLies
import Derived.OneCell
namespace Go.Proofs.Ytcoaachajdomcaa
open Go.RowKit Go.Shelf Lev

set_option maxRecDepth 100000 in
set_option maxHeartbeats 1000000 in
theorem rkaxpy_yes (q : Nat) (hq : q < 18446744073709551616) (A : Option Addr) (xs : List Nat) (c : Nat) (B : Option Addr) (ys : List Nat) (d : Nat) (w : World) (hx : SlArg w A xs c) (hy : SlArg w B ys d) (hl : xs.length ≤ 40) (ha : axB q xs ys = true) :
    Calls Try.prog 12 #[.float .f64 q, .slice A xs.length c, .slice B ys.length d] w fun e w' => (∃ R m, e = .returned (.tuple #[.slice R (axF q xs ys).length m, .bool true]) ∧ SlArg w' R (axF q xs ys) m) ∧ Below w.heap.size w w' := by
  have H1 := Lib.hid (rkall_any A xs c w hx)
  have H2 := Lib.hid (rkall_any B ys d w hy)
  have H3 := Lib.hid (rin_any q hq w)
  have hr : axF q xs ys = (List.range xs.length).map (axT q xs ys) := by unfold axF; rw [if_pos ha]
  have HT := Lib.hid (fun k (hk : k < xs.length) => axT_bd ha hk)
  have ha2 := ha
  unfold axB at ha2
  rw [Bool.and_eq_true] at ha2
  obtain ⟨hlen, hax, hay⟩ := fitS_iff.mp ha2.1
  rw [hax] at H1
  rw [hay] at H2
  rw [ha2.2] at H3
  have h1 : ((xs.length : Int) != (ys.length : Int)) = false := by rw [bne_eq_false_iff_eq]; omega
  have HL := Lib.hid hlen
  have HR := Lib.hid hr
  have HX := Lib.hid hx
  have HY := Lib.hid hy
  have hl2 : ys.length ≤ 40 := by omega
  clear ha ha2 hr hx hy hlen hax hay
  go_enter Try.func12, Try.ntmps12
  go_wp2_with fail
  refine H1.out.mono ?_
  rintro e w' ⟨rfl, rfl⟩
  go_wp2_with fail
  refine H2.out.mono ?_
  rintro e w' ⟨rfl, rfl⟩
  go_wp2_with fail
  refine H3.out.mono ?_
  rintro e w' ⟨rfl, rfl⟩
  go_wp2
  clear h1
  obtain ⟨i0, hi, hz0, hz1, hz2⟩ := info_parts info_f64'
  go_loopw [8, 9] (fun v i wr => ∃ k : Nat, k ≤ xs.length ∧ i = .int .i64 (k : Int) ∧ wr.ownsRow w.heap.size 22 1 v k (((List.range k).map (axT q xs ys)).map (Value.float .f64)) ∧ Below w.heap.size w wr) (fun _ i _ => xs.length - (intOf i).toNat)
  case atStart => exact ⟨0, Nat.zero_le _, rfl, World.ownsRow_nil _ _ _ _, Below.refl _ _⟩
  case round =>
    obtain ⟨k, hk, rfl, hown, hbel⟩ := hrel
    by_cases hlt : (k : Int) < (xs.length : Int)
    · have hlt2 : (k : Int) < (ys.length : Int) := by have := HL.out; omega
      have hxk := HX.out.below hbel
      have hyk := HY.out.below hbel
      obtain ⟨b, off, rfl, hbl, hc⟩ := hxk.reads.2 (by omega)
      obtain ⟨b2, off2, rfl, hbl2, hc2⟩ := hyk.reads.2 (by omega)
      have hcell : wr.cell? ⟨b, off + k, none⟩ = some (.float .f64 (ge xs k)) := hc k (by omega)
      have hcell2 : wr.cell? ⟨b2, off2 + k, none⟩ = some (.float .f64 (ge ys k)) := hc2 k (by omega)
      have ht := HT.out k (by omega)
      have hm : floatBits .mul .f64 q (ge xs k) = some (fmul q (ge xs k)) := ht.1
      have hrun := fun (w : World) => run_float_arith (P := Try.prog) w .mul 22 .f64 _ _ _ hm
      have hm2 : floatBits .add .f64 (ge ys k) (fmul q (ge xs k)) = some (axT q xs ys k) := ht.2.1
      have hrun2 := fun (w : World) => run_float_arith (P := Try.prog) w .add 22 .f64 _ _ _ hm2
      have hap : (List.range (k + 1)).map (axT q xs ys) = (List.range k).map (axT q xs ys) ++ [axT q xs ys k] := by rw [List.range_succ, List.map_append]; rfl
      have HAP := Lib.hid hap
      have HO := Lib.hid hown; have HB := Lib.hid hbel; have HSZ := Lib.hid hbel.size
      generalize axT q xs ys k = z at *
      generalize ge xs k = x at *
      generalize ge ys k = y at *
      generalize fmul q x = p at *
      clear hc hc2 hown hbel hm hm2 ht hxk hyk hap
      go_wp2_with fail
      go_region_law
        (first | ((refine step_append_lies _ (by rfl) _ _ 23 (by rfl) w.heap.size 22 i0 (.float .f64 0) 1 8 Try.underlying23 hi hz0 hz1 hz2 (by rfl) (by decide) _ k _ (by rfl) (HO.out.alloc _).drew ⟨wr.heap.size, 0, none⟩ 1 1 [.float .f64 z] (by rfl) (by rfl) (cell_one_new _ _ _) (by simp [Value.oneCell']) (by decide) (by unfold maxLen; omega) (by omega) (show w.heap.size ≤ (wr.alloc _).heap.size by rw [World.size_alloc]; exact Nat.le_succ_of_le HSZ.out) _ rfl ?_; intro g cap w3 hown' hgrow hat hlt3)))
      all_goals
        go_wp2
        go_roundw
        case rel =>
          refine ⟨k + 1, by omega, by go_num, by rw [HAP.out, List.map_append]; exact hown', ?_⟩
          exact Below.grown (HB.out.alloc HSZ.out _).drew hgrow (by have := HSZ.out; simp; omega) (own_from HO.out)
        case measure => simp [intOf]; omega
    · obtain rfl : k = xs.length := by omega
      have hle : ((List.range xs.length).map (axT q xs ys)).length = xs.length := by simp
      have hown2 := hown
      rw [← HR.out] at hown2 hle
      rw [← hle] at hown2
      have hmade := made_of_own hown2 (fun y hy => by
        rw [HR.out, List.mem_map] at hy
        obtain ⟨i, hi, rfl⟩ := hy
        exact (HT.out i (by simpa using hi)).2.2.2)
      obtain ⟨A2, c2, rfl, hs2, ha2⟩ := hmade
      have KS := Lib.hid hs2; have KB := Lib.hid hbel
      clear hown hown2 hs2 ha2 hbel hle
      go_wp2
      go_ret2
      exact ⟨⟨_, _, rfl, KS.out⟩, KB.out⟩

set_option maxRecDepth 100000 in
set_option maxHeartbeats 1000000 in
theorem rkaxpy_any (q : Nat) (hq : q < 18446744073709551616) (A : Option Addr) (xs : List Nat) (c : Nat) (B : Option Addr) (ys : List Nat) (d : Nat) (w : World) (hx : SlArg w A xs c) (hy : SlArg w B ys d) (hl : xs.length ≤ 40) :
    Calls Try.prog 12 #[.float .f64 q, .slice A xs.length c, .slice B ys.length d] w fun e w' => (∃ R m, e = .returned (.tuple #[.slice R (axF q xs ys).length m, .bool (axB q xs ys)]) ∧ SlArg w' R (axF q xs ys) m) ∧ Below w.heap.size w w' := by
  have hl64 : ys.length ≤ 9223372036854775807 := Nat.le_trans hy.cap hy.room
  cases ha : axB q xs ys
  case true => exact rkaxpy_yes q hq A xs c B ys d w hx hy hl ha
  case false =>
    have hr : axF q xs ys = [] := by unfold axF; rw [if_neg (by rw [ha]; decide)]
    rw [hr]
    have H1 := Lib.hid (rkall_any A xs c w hx)
    have H2 := Lib.hid (rkall_any B ys d w hy)
    have H3 := Lib.hid (rin_any q hq w)
    have hres : (∃ R m, Ending.returned (.tuple #[.slice none 0 0, .bool false]) = Ending.returned (.tuple #[.slice R ([] : List Nat).length m, .bool false]) ∧ SlArg w R [] m) := ⟨none, 0, rfl, ⟨FlR.nil _ _ _, by decide, by decide⟩⟩
    have HR := Lib.hid hres
    clear hr hx hy hres
    unfold axB fitS at ha
    by_cases h : xs.length = ys.length
    · have h1 : ((xs.length : Int) != (ys.length : Int)) = false := by rw [bne_eq_false_iff_eq]; omega
      rw [decide_eq_true h, Bool.true_and] at ha
      clear h
      cases hb : allIn xs
      · rw [hb] at H1
        clear ha hb
        go_enter Try.func12, Try.ntmps12
        go_wp2_with fail
        refine H1.out.mono ?_
        rintro e w' ⟨rfl, rfl⟩
        go_wp2
        go_ret2
        exact ⟨HR.out, Below.refl _ _⟩
      · rw [hb, Bool.true_and] at ha
        rw [hb] at H1
        cases hb2 : allIn ys
        · rw [hb2] at H2
          clear ha hb hb2
          go_enter Try.func12, Try.ntmps12
          go_wp2_with fail
          refine H1.out.mono ?_
          rintro e w' ⟨rfl, rfl⟩
          go_wp2_with fail
          refine H2.out.mono ?_
          rintro e w' ⟨rfl, rfl⟩
          go_wp2
          go_ret2
          exact ⟨HR.out, Below.refl _ _⟩
        · rw [hb2, Bool.true_and] at ha
          rw [hb2] at H2
          rw [ha] at H3
          clear ha hb hb2
          go_enter Try.func12, Try.ntmps12
          go_wp2_with fail
          refine H1.out.mono ?_
          rintro e w' ⟨rfl, rfl⟩
          go_wp2_with fail
          refine H2.out.mono ?_
          rintro e w' ⟨rfl, rfl⟩
          go_wp2_with fail
          refine H3.out.mono ?_
          rintro e w' ⟨rfl, rfl⟩
          go_wp2
          go_ret2
          exact ⟨HR.out, Below.refl _ _⟩
    · have h1 : ((xs.length : Int) != (ys.length : Int)) = true := by rw [bne_iff_ne]; omega
      clear h ha
      go_enter Try.func12, Try.ntmps12
      go_wp2
      go_ret2
      exact ⟨HR.out, Below.refl _ _⟩

end Go.Proofs.Ytcoaachajdomcaa
