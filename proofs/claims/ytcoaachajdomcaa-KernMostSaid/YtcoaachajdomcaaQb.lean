/- The walk of KernMost. -/
import Derived.Test.YtcoaachajdomcaaGe
import Derived.Test.YtcoaachajdomcaaTn
import Derived.Test.YtcoaachajdomcaaMf
namespace Go.Proofs.Ytcoaachajdomcaa
open Go.RowKit Go.Shelf Lev

attribute [local go_sem] order_lt order_gt order_eq order_ne flt_or_feq flt_or_feq'

set_option maxRecDepth 100000 in
set_option maxHeartbeats 2000000 in
theorem kernMost (xs : List Nat) (A : Option Addr) (c : Nat) (w : World) (hx : SlArg w A xs c) :
    Calls Try.prog 4 #[.slice A xs.length c] w fun e w' => e = .returned (.bool true) ∧ Below w.heap.size w w' := by
  have hl63 : xs.length ≤ 9223372036854775807 := Nat.le_trans hx.cap hx.room
  by_cases h1 : (40 : Int) < (xs.length : Int)
  · clear hx
    have HLV := Lib.hid (live05 w)
    go_enter Try.func4, Try.ntmps4
    go_wp2_with fail
    refine HLV.out.mono ?_
    rintro e w' ⟨rfl, hb⟩
    have HB := Lib.hid hb
    clear hb
    go_wp2
    go_ret
    exact ⟨rfl, HB.out⟩
  have hl : xs.length ≤ 40 := by omega
  have K0 := (Keep.start w).more hx
  have c5 := fun W hX => ksum_any A xs c W hX hl
  have c7 := fun W hX => knorm_any A xs c W hX hl
  cases ha : allIn xs
  · rw [ha] at c5 c7
    have C5 := Lib.hid c5; have C7 := Lib.hid c7
    clear c5 c7 ha hx
    go_enter Try.func4, Try.ntmps4
    go_wp2_with fail
    refine (C5.out _ (K0.arg (.head _))).mono ?_
    rintro e w1 ⟨rfl, hb1⟩
    have K1 := K0.call hb1
    clear K0 hb1
    go_wp2_with fail
    refine (C7.out _ (K1.arg (.head _))).mono ?_
    rintro e w2 ⟨rfl, hb2⟩
    have K2 := K1.call hb2
    clear K1 hb2
    go_wp2_with fail
    refine (live05 _).mono ?_
    rintro e w' ⟨rfl, hb⟩
    have HB := Lib.hid (Below.chain K2.below hb)
    clear hb K2
    go_wp2
    go_ret
    exact ⟨rfl, HB.out⟩
  · obtain ⟨l1, l2, l3, l4⟩ := most_law ha hl
    rw [ha] at c5 c7
    have hm : ∀ k, decide (mostT xs (k + 1) = 0) = (decide (mostT xs k = 0) && feq (ge xs k) 0) := fun k => by
      rw [feq_zero, ← Bool.decide_and, decide_eq_decide]
      show max (mostT xs k) (rg (ge xs k)) = 0 ↔ _
      omega
    have HM := Lib.hid hm
    generalize sumF xs = s at *
    generalize normF xs = n at *
    have C5 := Lib.hid c5; have C7 := Lib.hid c7
    have L1 := Lib.hid l1; have L2 := Lib.hid l2; have L3 := Lib.hid l3; have L4 := Lib.hid l4
    clear c5 c7 ha hx l1 l2 l3 l4 hm
    go_enter Try.func4, Try.ntmps4
    go_wp2_with fail
    refine (C5.out _ (K0.arg (.head _))).mono ?_
    rintro e w1 ⟨rfl, hb1⟩
    have K1 := K0.call hb1
    clear K0 hb1
    go_wp2_with fail
    refine (C7.out _ (K1.arg (.head _))).mono ?_
    rintro e w2 ⟨rfl, hb2⟩
    have K2 := K1.call hb2
    clear K1 hb2
    have HX := Lib.hid (K2.arg (.head _))
    have HB := Lib.hid K2.below
    clear K2
    go_wp2_with fail
    go_loop [7, 8] (fun z i => ∃ k : Nat, k ≤ xs.length ∧ i = .int .i64 (k : Int) ∧ z = .bool (decide (mostT xs k = 0))) (fun _ i => xs.length - (intOf i).toNat)
    case atStart => exact ⟨0, Nat.zero_le _, rfl, rfl⟩
    case round =>
      obtain ⟨k, hk, rfl, rfl⟩ := hrel
      by_cases hlt : (k : Int) < (xs.length : Int)
      · obtain ⟨b, off, rfl, _, hc⟩ := HX.out.reads.2 (by omega)
        have hcell : w2.cell? ⟨b, off + k, none⟩ = some (.float .f64 (ge xs k)) := hc k (by omega)
        have hb : ge xs k < 18446744073709551616 := HX.out.reads.lt k
        obtain ⟨hf1, hf2⟩ := L1.out k (by omega)
        have hz := HM.out k
        obtain ⟨z1, hz1⟩ : ∃ z1, z1 = decide (mostT xs (k + 1) = 0) := ⟨_, rfl⟩
        rw [← hz1] at hz
        have HZ1 := Lib.hid hz1; have HB1 := Lib.hid hb
        by_cases hone : xs.length = 1
        · obtain ⟨f1, f2⟩ := L2.out hone
          have hk0 : k = 0 := by omega
          subst hk0
          have h11 : ((xs.length : Int) == 1) = true := by rw [beq_iff_eq]; omega
          rw [Nat.add_zero] at hcell
          generalize decide (mostT xs 0 = 0) = z0 at *
          generalize ge xs 0 = x at *
          have HZ := Lib.hid hz; have HONE := Lib.hid hone
          clear hc hz hz1 hb hone
          cases z0
          · go_wp2_with (go_at_call 21; refine (abs_any _ HB1.out _).mono ?_; rintro e w' ⟨rfl, rfl⟩)
            go_round
            case rel => exact ⟨0 + 1, by have := HONE.out; omega, by go_num, by rw [← HZ1.out, HZ.out]; rfl⟩
            case measure => simp [intOf]; omega
          · rw [Bool.true_and] at HZ
            go_wp2_with (go_at_call 21; refine (abs_any _ HB1.out _).mono ?_; rintro e w' ⟨rfl, rfl⟩)
            go_round
            case rel => exact ⟨0 + 1, by have := HONE.out; omega, by go_num, by rw [← HZ1.out, HZ.out]⟩
            case measure => simp [intOf]; omega
        · have h11 : ((xs.length : Int) == 1) = false := by rw [beq_eq_false_iff_ne]; omega
          generalize decide (mostT xs k = 0) = z0 at *
          generalize ge xs k = x at *
          have HZ := Lib.hid hz
          clear hc hz hz1 hb hone
          cases z0
          · go_wp2_with (go_at_call 21; refine (abs_any _ HB1.out _).mono ?_; rintro e w' ⟨rfl, rfl⟩)
            go_round
            case rel => exact ⟨k + 1, by omega, by go_num, by rw [← HZ1.out, HZ.out]; rfl⟩
            case measure => simp [intOf]; omega
          · rw [Bool.true_and] at HZ
            go_wp2_with (go_at_call 21; refine (abs_any _ HB1.out _).mono ?_; rintro e w' ⟨rfl, rfl⟩)
            go_round
            case rel => exact ⟨k + 1, by omega, by go_num, by rw [← HZ1.out, HZ.out]⟩
            case measure => simp [intOf]; omega
      · obtain rfl : k = xs.length := by omega
        have h3 := L3.out
        have h4 := L4.out
        generalize decide (mostT xs xs.length = 0) = z0 at *
        clear hk hlt
        cases z0
        · go_wp2_with fail
          refine (live05 _).mono ?_
          rintro e w' ⟨rfl, hb⟩
          have HB2 := Lib.hid (Below.chain HB.out hb)
          clear hb
          go_wp2
          go_ret
          exact ⟨rfl, HB2.out⟩
        · go_wp2_with fail
          refine (live05 _).mono ?_
          rintro e w' ⟨rfl, hb⟩
          have HB2 := Lib.hid (Below.chain HB.out hb)
          clear hb
          go_wp2
          go_ret
          exact ⟨rfl, HB2.out⟩

end Go.Proofs.Ytcoaachajdomcaa
