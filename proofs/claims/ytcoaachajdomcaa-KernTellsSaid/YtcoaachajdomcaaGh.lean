/- The document's answer for Norm. -/
import Derived.Test.YtcoaachajdomcaaGf
namespace Go.Proofs.Ytcoaachajdomcaa
open Go.RowKit Go.Shelf Lev

attribute [local go_sem] order_lt order_gt order_eq order_ne flt_or_feq flt_or_feq'

set_option maxHeartbeats 1000000 in
theorem rknorm_any (A : Option Addr) (xs : List Nat) (c : Nat) (w : World) (hx : SlArg w A xs c) (hl : xs.length ≤ 40) :
    Calls Try.prog 16 #[.slice A xs.length c] w fun e w' => e = .returned (.tuple #[.float .f64 (normF xs), .bool (allIn xs)]) ∧ ∃ n, w' = w.drewN n := by
  have H1 := Lib.hid (rkall_any A xs c w hx)
  cases ha : allIn xs
  · rw [ha] at H1
    have hr : normF xs = 0 := by unfold normF; rw [if_neg (by rw [ha]; simp)]
    rw [hr]
    clear ha hr hx
    go_enter Try.func16, Try.ntmps16
    go_wp2_with fail
    refine H1.out.mono ?_
    rintro e w' ⟨rfl, rfl⟩
    go_wp2
    go_ret2
    exact ⟨rfl, 0, rfl⟩
  · rw [ha] at H1
    have HA := Lib.hid ha
    have HX := Lib.hid hx
    have HI := Lib.hid INF_eq
    have HL := Lib.hid hl
    clear ha hx
    go_enter Try.func16, Try.ntmps16
    go_wp2_with (go_at_call 20; refine H1.out.mono ?_; rintro e w' ⟨rfl, rfl⟩)
    go_loop [4, 5] (fun s i => ∃ k : Nat, k ≤ xs.length ∧ i = .int .i64 (k : Int) ∧ s = .int .i64 (topN xs k)) (fun _ i => xs.length - (intOf i).toNat)
    case atStart => exact ⟨0, Nat.zero_le _, rfl, rfl⟩
    case round =>
      obtain ⟨k, hk, rfl, rfl⟩ := hrel
      by_cases hlt : (k : Int) < (xs.length : Int)
      · obtain ⟨b, off, rfl, _, hc⟩ := HX.out.reads.2 (by omega)
        have hcell : w.cell? ⟨b, off + k, none⟩ = some (.float .f64 (ge xs k)) := hc k (by omega)
        have hb : ge xs k < 18446744073709551616 := HX.out.reads.lt k
        have hm1 : topN xs (k + 1) = max (topN xs k) (topB (ge xs k)) := rfl
        have HM := Lib.hid hm1; have HB := Lib.hid hb
        clear hm1 hc hb
        generalize topN xs k = m0 at *
        generalize ge xs k = x at *
        have HT := Lib.hid (rtop_any x HB.out w)
        generalize topB x = t at *
        go_wp2_with (go_at_call 41; refine HT.out.mono ?_; rintro e w' ⟨rfl, rfl⟩)
        go_round
        case rel => exact ⟨k + 1, by omega, by go_num, by rw [HM.out]⟩
        case measure => simp [intOf]; omega
      · obtain rfl : k = xs.length := by omega
        have htn := topN_eq HA.out xs.length (Nat.le_refl _)
        by_cases h0 : mostT xs xs.length = 0
        · have hr : normF xs = 0 := by unfold normF; rw [if_neg (by simp [h0])]
          have HR := Lib.hid hr
          rw [if_pos h0] at htn
          rw [htn]
          clear hr h0 htn
          go_wp2
          go_ret2
          exact ⟨by rw [HR.out]; rfl, 0, rfl⟩
        · have hr : normF xs = ldS (sqrtF (sumT (sqT xs (normK xs)) xs.length)) (normK xs) := by unfold normF; rw [if_pos ⟨HA.out, h0⟩]
          have HR := Lib.hid hr
          rw [if_neg h0] at htn
          have htn2 : topN xs xs.length = normK xs := htn
          rw [htn2]
          have hm := mostT_in HA.out xs.length (Nat.le_refl _)
          have hmr : rg (mostT xs xs.length) = mostT xs xs.length := rg_small (by omega)
          have hkk := topS_lo400 (m := mostT xs xs.length) (by omega) (by omega)
          have hns := norm_sum HA.out h0 (by have := HL.out; omega)
          have hsq := sqrt_bd hns.1 hns.2.1 hns.2.2
          have HNT := Lib.hid (fun i (hi : i < xs.length) => norm_terms HA.out h0 hi)
          have HAD := Lib.hid (fun k (hk : k < xs.length) => sumT_add (t := sqT xs (normK xs)) (E := 2) (by decide) (by decide) (k := k) (by have := HL.out; omega) (fun i hi => ⟨(HNT.out i (by omega)).2.2.2.1, (HNT.out i (by omega)).2.2.2.2.1⟩))
          have hkr : -400 ≤ normK xs ∧ normK xs ≤ 400 := hkk
          have HLD := Lib.hid (fun i (hi : i < xs.length) => mul_pow2 (x := ge xs i) (k := -normK xs) (HNT.out i hi).1 (by omega) (by omega))
          have HSQ := Lib.hid (sqrt_any _ _ hsq.1)
          have hmf := mul_pow2 (x := sqrtF (sumT (sqT xs (normK xs)) xs.length)) (k := normK xs) hsq.2.1 (by omega) (by omega)
          have HMF := Lib.hid hmf
          clear hm hmr htn htn2 hkk hns hsq hr h0 hmf
          obtain ⟨hk1, hk2⟩ := hkr
          have w1' : IntKind.i64.wrap (-(normK xs)) = -(normK xs) := by rw [IntKind.wrap_i64]; omega
          have hp1 := fun W => rpow_any (-(normK xs)) W
          have e1 : Value.int .i64 (IntKind.i64.wrap (-(normK xs))) = .int .i64 (-(normK xs)) := by rw [w1']
          have hp1w := hp1
          rw [← e1] at hp1w
          have HP1 := Lib.hid hp1; have HP1W := Lib.hid hp1w; have HPF := Lib.hid (fun W => rpow_any (normK xs) W)
          clear w1' e1 hp1 hp1w
          have hne : (normK xs == -2000) = false := by rw [beq_eq_false_iff_ne]; omega
          generalize normK xs = K at *
          go_wp2
          go_loopw [6, 7] (fun s i wr => ∃ k n : Nat, k ≤ xs.length ∧ i = .int .i64 (k : Int) ∧ s = .float .f64 (sumT (sqT xs K) k) ∧ wr = w.drewN n) (fun _ i _ => xs.length - (intOf i).toNat)
          case atStart => exact ⟨0, 0, Nat.zero_le _, rfl, rfl, rfl⟩
          case round =>
            obtain ⟨k, n, hk, rfl, rfl, rfl⟩ := hrel
            by_cases hlt : (k : Int) < (xs.length : Int)
            · obtain ⟨b, off, rfl, _, hc⟩ := HX.out.reads.2 (by omega)
              have hcell : (w.drewN n).cell? ⟨b, off + k, none⟩ = some (.float .f64 (ge xs k)) := by rw [World.cell?_drewN]; exact hc k (by omega)
              have hs := HAD.out k (by omega)
              have hld := HLD.out k (by omega)
              have hmu := (HNT.out k (by omega)).2.2.1
              rw [show ldS (ge xs k) (-K) = scT xs K k from rfl] at hld
              have hm0 : floatBits .mul .f64 (ge xs k) (makeF false 1 (-K)) = some (scT xs K k) := hld
              have hrun0 := fun (w : World) => run_float_arith (P := Try.prog) w .mul 22 .f64 _ _ _ hm0
              have hm : floatBits .mul .f64 (scT xs K k) (scT xs K k) = some (sqT xs K k) := hmu
              have hrun := fun (w : World) => run_float_arith (P := Try.prog) w .mul 22 .f64 _ _ _ hm
              have hm2 : floatBits .add .f64 (sumT (sqT xs K) k) (sqT xs K k) = some (sumT (sqT xs K) (k + 1)) := hs
              have hrun2 := fun (w : World) => run_float_arith (P := Try.prog) w .add 22 .f64 _ _ _ hm2
              obtain ⟨s1, h1⟩ : ∃ s1, s1 = sumT (sqT xs K) (k + 1) := ⟨_, rfl⟩
              rw [← h1] at hrun2
              have H1' := Lib.hid h1
              clear hc hs h1 hmu hm hld hm0 hm2
              generalize sumT (sqT xs K) k = s0 at *
              generalize ge xs k = x at *
              generalize scT xs K k = y at *
              generalize sqT xs K k = q at *
              obtain ⟨W, hW⟩ : ∃ W, W = w.drewN n := ⟨_, rfl⟩
              rw [← hW] at hcell ⊢
              have KW := Lib.hid hW; clear hW
              go_wp2
              go_quiet (first | (go_at_call 42; exact q_of (HP1.out _)) | (go_at_call 42; exact q_of (HP1W.out _)))
              go_wp2
              go_roundw
              case rel => exact ⟨k + 1, n + nq, by omega, by go_num, by rw [H1'.out], by rw [KW.out, World.drewN_drewN]⟩
              case measure => simp [intOf]; omega
            · obtain rfl : k = xs.length := by omega
              have hmf2 : floatBits .mul .f64 (sqrtF (sumT (sqT xs K) xs.length)) (makeF false 1 K) = some (ldS (sqrtF (sumT (sqT xs K) xs.length)) K) := HMF.out
              have hrun0 := fun (w : World) => run_float_arith (P := Try.prog) w .mul 22 .f64 _ _ _ hmf2
              clear hmf2
              go_wp2_with (first
                | (go_at_call 40; refine (HSQ.out _).mono ?_; rintro e w' ⟨rfl, rfl⟩)
                | (go_at_call 42; refine (HPF.out _).mono ?_; rintro e w' ⟨rfl, rfl⟩))
              go_ret2
              exact ⟨by rw [HR.out]; rfl, n, rfl⟩

end Go.Proofs.Ytcoaachajdomcaa
