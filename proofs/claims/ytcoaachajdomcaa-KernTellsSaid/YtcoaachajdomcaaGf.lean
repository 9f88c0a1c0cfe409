/- Contracts of the document's answers for layer 5: Sum, Dot, Norm. -/
import Derived.Test.YtcoaachajdomcaaGd
import Derived.Test.YtcoaachajdomcaaCd
import Derived.Lib.MinMax
namespace Go.Proofs.Ytcoaachajdomcaa
open Go.RowKit Go.Shelf Lev

attribute [local go_sem] order_lt order_gt order_eq order_ne flt_or_feq flt_or_feq' run_store_float

set_option maxHeartbeats 1000000 in
theorem rksum_any (A : Option Addr) (xs : List Nat) (c : Nat) (w : World) (hx : SlArg w A xs c) (hl : xs.length ≤ 40) :
    Calls Try.prog 14 #[.slice A xs.length c] w fun e w' => e = .returned (.tuple #[.float .f64 (sumF xs), .bool (allIn xs)]) ∧ w = w' := by
  have H1 := Lib.hid (rkall_any A xs c w hx)
  cases ha : allIn xs
  · rw [ha] at H1
    have hr : sumF xs = 0 := by unfold sumF; rw [if_neg (by rw [ha]; decide)]
    rw [hr]
    clear ha hr hx
    go_enter Try.func14, Try.ntmps14
    go_wp2_with fail
    refine H1.out.mono ?_
    rintro e w' ⟨rfl, rfl⟩
    go_wp2
    go_ret2
    exact ⟨rfl, rfl⟩
  · rw [ha] at H1
    have hr : sumF xs = sumT (absT xs) xs.length := by unfold sumF; rw [if_pos ha]
    rw [hr]
    have HT := Lib.hid (fun k (hk : k < xs.length) => sumT_add (t := absT xs) (E := 400) (by decide) (by decide) (k := k) (by omega) (fun i hi => absT_bd ha (by omega)))
    have HX := Lib.hid hx
    clear ha hr hx
    go_enter Try.func14, Try.ntmps14
    go_wp2_with (go_at_call 20; refine H1.out.mono ?_; rintro e w' ⟨rfl, rfl⟩)
    go_loop [4, 5] (fun s i => ∃ k : Nat, k ≤ xs.length ∧ i = .int .i64 (k : Int) ∧ s = .float .f64 (sumT (absT xs) k)) (fun _ i => xs.length - (intOf i).toNat)
    case atStart => exact ⟨0, Nat.zero_le _, rfl, rfl⟩
    case round =>
      obtain ⟨k, hk, rfl, rfl⟩ := hrel
      by_cases hlt : (k : Int) < (xs.length : Int)
      · obtain ⟨b, off, rfl, _, hc⟩ := HX.out.reads.2 (by omega)
        have hcell : w.cell? ⟨b, off + k, none⟩ = some (.float .f64 (ge xs k)) := hc k (by omega)
        have hb : ge xs k < 18446744073709551616 := HX.out.reads.lt k
        have hs := HT.out k (by omega)
        rw [show absT xs k = rg (ge xs k) from rfl] at hs
        have hm : floatBits .add .f64 (sumT (absT xs) k) (rg (ge xs k)) = some (sumT (absT xs) (k + 1)) := hs
        have hrun := fun (w : World) => run_float_arith (P := Try.prog) w .add 22 .f64 _ _ _ hm
        obtain ⟨s1, h1⟩ : ∃ s1, s1 = sumT (absT xs) (k + 1) := ⟨_, rfl⟩
        rw [← h1] at hrun
        have H1' := Lib.hid h1; have HB := Lib.hid hb
        clear hc hs hm h1 hb
        generalize sumT (absT xs) k = s0 at *
        generalize ge xs k = x at *
        go_wp2_with (go_at_call 21; refine (abs_any _ HB.out _).mono ?_; rintro e w' ⟨rfl, rfl⟩)
        go_round
        case rel => exact ⟨k + 1, by omega, by go_num, by rw [H1'.out]⟩
        case measure => simp [intOf]; omega
      · obtain rfl : k = xs.length := by omega
        go_wp2
        go_ret2
        exact ⟨rfl, rfl⟩

set_option maxHeartbeats 1000000 in
theorem rkdot_any (A : Option Addr) (xs : List Nat) (c : Nat) (B : Option Addr) (ys : List Nat) (d : Nat) (w : World) (hx : SlArg w A xs c) (hy : SlArg w B ys d) (hl : xs.length ≤ 40) :
    Calls Try.prog 10 #[.slice A xs.length c, .slice B ys.length d] w fun e w' => e = .returned (.tuple #[.float .f64 (dotF xs ys), .bool (fitS xs ys)]) ∧ ∃ n, w' = w.drewN n := by
  have hl64 : ys.length ≤ 9223372036854775807 := Nat.le_trans hy.cap hy.room
  have H1 := Lib.hid (rkall_any A xs c w hx)
  have H2 := Lib.hid (rkall_any B ys d w hy)
  cases ha : fitS xs ys
  · have hr : dotF xs ys = 0 := by unfold dotF; rw [if_neg (by rw [ha]; decide)]
    rw [hr]
    clear hr hx hy
    unfold fitS at ha
    by_cases h : xs.length = ys.length
    · have h1 : ((xs.length : Int) != (ys.length : Int)) = false := by rw [bne_eq_false_iff_eq]; omega
      rw [decide_eq_true h, Bool.true_and] at ha
      clear h
      cases hb : allIn xs
      · rw [hb] at H1
        clear ha hb
        go_enter Try.func10, Try.ntmps10
        go_wp2_with fail
        refine H1.out.mono ?_
        rintro e w' ⟨rfl, rfl⟩
        go_wp2
        go_ret2
        exact ⟨rfl, 0, rfl⟩
      · rw [hb, Bool.true_and] at ha
        rw [hb] at H1
        rw [ha] at H2
        clear ha hb
        go_enter Try.func10, Try.ntmps10
        go_wp2_with fail
        refine H1.out.mono ?_
        rintro e w' ⟨rfl, rfl⟩
        go_wp2_with fail
        refine H2.out.mono ?_
        rintro e w' ⟨rfl, rfl⟩
        go_wp2
        go_ret2
        exact ⟨rfl, 0, rfl⟩
    · have h1 : ((xs.length : Int) != (ys.length : Int)) = true := by rw [bne_iff_ne]; omega
      clear h ha
      go_enter Try.func10, Try.ntmps10
      go_wp2
      go_ret2
      exact ⟨rfl, 0, rfl⟩
  · have hr : dotF xs ys = sumT (dotT xs ys) xs.length := by unfold dotF; rw [if_pos ha]
    rw [hr]
    have HT := Lib.hid (fun k (hk : k < xs.length) => sumT_add (t := dotT xs ys) (E := 800) (by decide) (by decide) (k := k) (by omega) (fun i hi => dotT_bd ha (by omega)))
    obtain ⟨hlen, hax, hay⟩ := fitS_iff.mp ha
    have HM := Lib.hid (fun k (hk : k < xs.length) => (prod_in (allIn_get hax hk) (allIn_get hay (hlen ▸ hk))).1)
    rw [hax] at H1
    rw [hay] at H2
    have h1 : ((xs.length : Int) != (ys.length : Int)) = false := by rw [bne_eq_false_iff_eq]; omega
    have HX := Lib.hid hx
    have HY := Lib.hid hy
    have HL := Lib.hid hlen
    clear ha hr hx hy hax hay hlen
    go_enter Try.func10, Try.ntmps10
    go_wp2_with fail
    refine H1.out.mono ?_
    rintro e w' ⟨rfl, rfl⟩
    go_wp2_with fail
    refine H2.out.mono ?_
    rintro e w' ⟨rfl, rfl⟩
    go_wp2
    clear h1
    go_loopw [6, 7] (fun s i wr => ∃ k n : Nat, k ≤ xs.length ∧ i = .int .i64 (k : Int) ∧ s = .float .f64 (sumT (dotT xs ys) k) ∧ wr = w.drewN n) (fun _ i _ => xs.length - (intOf i).toNat)
    case atStart => exact ⟨0, 0, Nat.zero_le _, rfl, rfl, rfl⟩
    case round =>
      obtain ⟨k, n, hk, rfl, rfl, rfl⟩ := hrel
      by_cases hlt : (k : Int) < (xs.length : Int)
      · have hlt2 : (k : Int) < (ys.length : Int) := by have := HL.out; omega
        obtain ⟨b, off, rfl, _, hc⟩ := HX.out.reads.2 (by omega)
        obtain ⟨b2, off2, rfl, _, hc2⟩ := HY.out.reads.2 (by omega)
        have hcell : (w.drewN n).cell? ⟨b, off + k, none⟩ = some (.float .f64 (ge xs k)) := by rw [World.cell?_drewN]; exact hc k (by omega)
        have hcell2 : (w.drewN n).cell? ⟨b2, off2 + k, none⟩ = some (.float .f64 (ge ys k)) := by rw [World.cell?_drewN]; exact hc2 k (by omega)
        have hs := HT.out k (by omega)
        have hp := HM.out k (by omega)
        rw [show dotT xs ys k = fmul (ge xs k) (ge ys k) from rfl] at hs
        have hm : floatBits .mul .f64 (ge xs k) (ge ys k) = some (fmul (ge xs k) (ge ys k)) := hp
        have hrun := fun (w : World) => run_float_arith (P := Try.prog) w .mul 22 .f64 _ _ _ hm
        have hm2 : floatBits .add .f64 (sumT (dotT xs ys) k) (fmul (ge xs k) (ge ys k)) = some (sumT (dotT xs ys) (k + 1)) := hs
        have hrun2 := fun (w : World) => run_float_arith (P := Try.prog) w .add 22 .f64 _ _ _ hm2
        obtain ⟨s1, h1⟩ : ∃ s1, s1 = sumT (dotT xs ys) (k + 1) := ⟨_, rfl⟩
        rw [← h1] at hrun2
        have H1' := Lib.hid h1
        clear hc hc2 hs hp hm hm2 h1
        generalize sumT (dotT xs ys) k = s0 at *
        generalize ge xs k = x at *
        generalize ge ys k = y at *
        generalize fmul x y = p at *
        obtain ⟨W, hW⟩ : ∃ W, W = w.drewN n := ⟨_, rfl⟩
        rw [← hW] at hcell hcell2 ⊢
        have KW := Lib.hid hW; clear hW
        go_wp2
        go_quiet (fail)
        go_wp2
        go_roundw
        case rel => exact ⟨k + 1, n + nq, by omega, by go_num, by rw [H1'.out], by rw [KW.out, World.drewN_drewN]⟩
        case measure => simp [intOf]; omega
      · obtain rfl : k = xs.length := by omega
        go_wp2
        go_ret2
        exact ⟨rfl, n, rfl⟩

end Go.Proofs.Ytcoaachajdomcaa
