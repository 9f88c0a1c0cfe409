/- Contracts of package tri: At, New, Get. -/
import Derived.Test.YtkhnoffhbfcgfaaCe
import Derived.Test.YtkhnoffhbfcgfaaT
import Derived.Test.YtkhnoffhbfcgfaaMc
namespace Go.Proofs.Ytkhnoffhbfcgfaa
open Go.RowKit Go.Shelf Lev

set_option maxHeartbeats 400000 in
theorem before_any (C i : Int) (N : Nat) (hN : (N : Int) = C + 1) (h1 : 1 ≤ C) (h6 : C ≤ 6) (hi : 0 ≤ i) (hiC : i ≤ C) (w : World) :
    Calls Try.prog 76 #[.int .i64 C, .int .i64 i] w fun e w' => e = .returned (.int .i64 (st N i.toNat : Int)) ∧ w = w' := by
  have hb := before_st (N := N) (i := i.toNat) (by omega) (by omega)
  have hI : ((i.toNat : Nat) : Int) = i := by omega
  rw [hI] at hb
  rcases (by omega : C = 1 ∨ C = 2 ∨ C = 3 ∨ C = 4 ∨ C = 5 ∨ C = 6) with h | h | h | h | h | h
  all_goals
    subst h
    rcases (by omega : i = 0 ∨ i = 1 ∨ i = 2 ∨ i = 3 ∨ i = 4 ∨ i = 5 ∨ i = 6) with h | h | h | h | h | h | h
    all_goals
      subst h
      first
      | (exfalso; omega)
      | (obtain rfl : N = _ := by first | exact (by omega : N = 2) | exact (by omega : N = 3) | exact (by omega : N = 4) | exact (by omega : N = 5) | exact (by omega : N = 6) | exact (by omega : N = 7)
         clear hb hI hi hiC h1 h6 hN
         go_enter Try.func76, Try.ntmps76
         go_wp2
         go_ret
         exact ⟨rfl, rfl⟩)

set_option maxHeartbeats 400000 in
theorem at_any (C i j : Int) (w : World) :
    Calls Try.prog 60 #[.int .i64 C, .int .i64 i, .int .i64 j] w fun e w' => e = .returned (.tuple #[.int .i64 (atI C i j), .bool (atB C i j)]) ∧ w = w' := by
  cases h : atB C i j
  · have hI : atI C i j = 0 := by unfold atI; rw [h, if_neg (by decide)]
    rw [hI]
    have h' : ¬ (1 ≤ C ∧ C ≤ 6 ∧ 0 ≤ i ∧ i ≤ j ∧ j ≤ C) := by unfold atB at h; simpa using h
    by_cases h1 : sizeI C = 0
    · have d1 : (sizeI C == 0) = true := by rw [beq_iff_eq]; exact h1
      clear h h' h1 hI
      go_enter Try.func60, Try.ntmps60
      go_wp2_with (go_at_call 55; refine (size_any _ _).mono ?_; rintro e w' ⟨rfl, rfl⟩)
      go_ret2
      exact ⟨rfl, rfl⟩
    · have d1 : (sizeI C == 0) = false := by rw [beq_eq_false_iff_ne]; exact h1
      have hC : 1 ≤ C ∧ C ≤ 6 := by
        unfold sizeI at h1
        by_cases h2 : C < 1 ∨ 6 < C
        · rw [if_pos h2] at h1; exact absurd rfl h1
        · omega
      have hc : i < 0 ∨ (¬ i < 0 ∧ j < i) ∨ (¬ i < 0 ∧ ¬ j < i ∧ C < j) := by omega
      clear h h' h1 hI
      rcases hc with e1 | ⟨e1, e2⟩ | ⟨e1, e2, e3⟩
      all_goals
        go_enter Try.func60, Try.ntmps60
        go_wp2_with (go_at_call 55; refine (size_any _ _).mono ?_; rintro e w' ⟨rfl, rfl⟩)
        go_ret2
        exact ⟨rfl, rfl⟩
  · obtain ⟨h1, h2, h3, h4, h5⟩ := atB_iff.1 h
    have hI : atI C i j = (st (C + 1).toNat i.toNat : Int) + (j - i) := by unfold atI; rw [if_pos h]
    rw [hI]
    have d1 : (sizeI C == 0) = false := by rw [beq_eq_false_iff_ne]; exact size_ne h1 h2
    have e1 : decide (i < 0) = false := decide_eq_false (by omega)
    have e2 : decide (j < i) = false := decide_eq_false (by omega)
    have e3 : decide (C < j) = false := decide_eq_false (by omega)
    have hb : st (C + 1).toNat i.toNat ≤ 49 := by
      have h3 := st_le (N := (C + 1).toNat) (k := i.toNat) (m := (C + 1).toNat) (by omega)
      have h4 := st_all (C + 1).toNat
      have h5 : (C + 1).toNat ≤ 7 := by omega
      have h6 := Nat.mul_le_mul h5 h5
      omega
    have HB := Lib.hid (fun w => before_any C i (C + 1).toNat (by omega) h1 h2 (by omega) (by omega) w)
    clear h hI
    generalize st (C + 1).toNat i.toNat = s at *
    go_enter Try.func60, Try.ntmps60
    go_wp2_with (first
      | (go_at_call 55; refine (size_any _ _).mono ?_; rintro e w' ⟨rfl, rfl⟩)
      | (go_at_call 76; refine (HB.out _).mono ?_; rintro e w' ⟨rfl, rfl⟩))
    go_ret2
    exact ⟨ret_ib (by omega) rfl, rfl⟩

theorem rat_any (C i j : Int) (w : World) :
    Calls Try.prog 43 #[.int .i64 C, .int .i64 i, .int .i64 j] w fun e w' => e = .returned (.tuple #[.int .i64 (atI C i j), .bool (atB C i j)]) ∧ w = w' := by
  cases h : atB C i j
  · have hI : atI C i j = 0 := by unfold atI; rw [h, if_neg (by decide)]
    rw [hI]
    have h' : ¬ (1 ≤ C ∧ C ≤ 6 ∧ 0 ≤ i ∧ i ≤ j ∧ j ≤ C) := by unfold atB at h; simpa using h
    refine rat_no C i j ?_ w
    by_cases h2 : C < 1 ∨ 6 < C
    · left; unfold sizeI; rw [if_pos h2]
    · omega
  · obtain ⟨h1, h2, h3, h4, h5⟩ := atB_iff.1 h
    have hI : atI C i j = (st (C + 1).toNat i.toNat : Int) + (j - i) := by unfold atI; rw [if_pos h]
    rw [hI]
    exact rat_yes C i j (C + 1).toNat (by omega) h1 h2 h3 h4 h5 w

theorem info_f64' : (Try.prog.info? 26).map (fun i => (i.zero, i.size, i.bytes)) = some (some (.float .f64 0), 1, 8) := by kernel_rfl

set_option maxRecDepth 100000 in
set_option maxHeartbeats 1000000 in
theorem get_any (f : Fct) (A : Option Addr) (c : Nat) (i j : Int) (w : World) (hx : SlArg w A f.xs c) :
    Calls Try.prog 33 #[facV f.C A f.xs.length c f.R f.T, .int .i64 i, .int .i64 j] w fun e w' => e = .returned (.float .f64 (getS f i j)) ∧ Below w.heap.size w w' := by
  have HX := Lib.hid hx
  have HCK := Lib.hid (fun W hW => check_any f.C A f.xs c f.R f.T W hW)
  have HAT := Lib.hid (fun w => at_any f.C i j w)
  unfold facV at HCK ⊢
  cases h : atB f.C i j
  · have hg : getS f i j = 0 := by unfold getS; rw [h]; rfl
    rw [hg]; rw [h] at HAT
    clear hg h hx
    generalize atI f.C i j = p at *
    go_enter Try.func33, Try.ntmps33
    go_wp2_with (go_at_call 60; refine (HAT.out _).mono ?_; rintro e w' ⟨rfl, rfl⟩)
    go_ret
    exact ⟨rfl, (Below.refl w.heap.size w).alloc (Nat.le_refl _) _⟩
  · obtain ⟨k1, k2, k3, k4, k5⟩ := atB_iff.1 h
    have hp : atI f.C i j = (st (f.C + 1).toNat i.toNat : Int) + (j - i) := by unfold atI; rw [if_pos h]
    have hp0 : 0 ≤ atI f.C i j := by omega
    rw [h] at HAT
    cases hok : f.ok
    · have hg : getS f i j = 0 := by unfold getS; rw [hok, Bool.and_false]; rfl
      rw [hg]; rw [show checkS f.C f.xs f.R f.T = false from hok] at HCK
      clear hg h hx hp hok k1 k2 k3 k4 k5
      generalize atI f.C i j = p at *
      go_enter Try.func33, Try.ntmps33
      go_wp2_with (go_at_call 60; refine (HAT.out _).mono ?_; rintro e w' ⟨rfl, rfl⟩)
      refine named ?_
      intro W hW
      obtain ⟨b0, hbW, hsz⟩ := boxes1 hW
      clear hW
      refine (HCK.out W (HX.out.below hbW)).mono ?_
      rintro e w1 ⟨rfl, hb1⟩
      have hB := hbW.trans (hb1.mono (by omega))
      clear hb1 hbW b0
      go_wp2
      go_ret
      exact ⟨rfl, hB⟩
    · have hl := ok_len hok
      have hst := st_in (N := (f.C + 1).toNat) (i := i.toNat) (d := j.toNat - i.toNat) (by omega) (by omega)
      have hlt : (atI f.C i j).toNat < f.xs.length := by omega
      have hg : getS f i j = f.xs[(atI f.C i j).toNat]?.getD 0 := by unfold getS; rw [h, hok]; rfl
      rw [hg]; rw [show checkS f.C f.xs f.R f.T = true from hok] at HCK
      have hl63 : f.xs.length ≤ 9223372036854775807 := Nat.le_trans hx.cap hx.room
      have HOK := Lib.hid hok
      clear hg h hp hl hst hok
      obtain ⟨q, hq⟩ : ∃ q : Nat, atI f.C i j = (q : Int) := ⟨_, (Int.toNat_of_nonneg hp0).symm⟩
      rw [hq, Int.toNat_natCast] at hlt ⊢
      rw [hq] at HAT
      clear hq hp0
      go_enter Try.func33, Try.ntmps33
      go_wp2_with (go_at_call 60; refine (HAT.out _).mono ?_; rintro e w' ⟨rfl, rfl⟩)
      refine named ?_
      intro W hW
      obtain ⟨b0, hbW, hsz⟩ := boxes1 hW
      clear hW
      refine (HCK.out W (HX.out.below hbW)).mono ?_
      rintro e w1 ⟨rfl, hb1⟩
      have hB := Lib.hid (hbW.trans (hb1.mono (by omega)))
      have b1 := b0.below hb1 (by omega)
      obtain ⟨r0, r1, r2, r3⟩ := b1.c4
      obtain ⟨b, off, hA, hbb, hc⟩ := ((HX.out.below hbW).below hb1).reads.2 (by omega)
      have hcell := hc q hlt
      subst hA
      clear hb1 hbW b0 b1 hc hx
      have hlt' : (q : Int) < (f.xs.length : Int) := by omega
      generalize hv : f.xs[q]?.getD 0 = x at hcell
      have HV := Lib.hid hv; clear hv
      go_wp2
      go_ret
      exact ⟨by rw [HV.out]; rfl, hB.out⟩

set_option maxRecDepth 100000 in
set_option maxHeartbeats 1000000 in
theorem rget_any (f : Fct) (A : Option Addr) (c : Nat) (i j : Int) (w : World) (hx : SlArg w A f.xs c) :
    Calls Try.prog 26 #[facV f.C A f.xs.length c f.R f.T, .int .i64 i, .int .i64 j] w fun e w' => e = .returned (.float .f64 (getS f i j)) ∧ Below w.heap.size w w' := by
  have HX := Lib.hid hx
  have HCK := Lib.hid (fun W hW => rcheck_any f.C A f.xs c f.R f.T W hW)
  have HAT := Lib.hid (fun w => rat_any f.C i j w)
  unfold facV at HCK ⊢
  cases h : atB f.C i j
  · have hg : getS f i j = 0 := by unfold getS; rw [h]; rfl
    rw [hg]; rw [h] at HAT
    clear hg h hx
    generalize atI f.C i j = p at *
    cases hok : checkS f.C f.xs f.R f.T
    all_goals
      rw [hok] at HCK
      clear hok
      go_enter Try.func26, Try.ntmps26
      go_wp2_with (go_at_call 43; refine (HAT.out _).mono ?_; rintro e w' ⟨rfl, rfl⟩)
      refine named ?_
      intro W hW
      obtain ⟨b0, hbW, hsz⟩ := boxes1 hW
      clear hW
      refine (HCK.out W (HX.out.below hbW)).mono ?_
      rintro e w1 ⟨rfl, hb1⟩
      have hB := hbW.trans (hb1.mono (by omega))
      clear hb1 hbW b0
      go_wp2
      go_ret
      exact ⟨rfl, hB⟩
  · obtain ⟨k1, k2, k3, k4, k5⟩ := atB_iff.1 h
    have hp : atI f.C i j = (st (f.C + 1).toNat i.toNat : Int) + (j - i) := by unfold atI; rw [if_pos h]
    have hp0 : 0 ≤ atI f.C i j := by omega
    rw [h] at HAT
    cases hok : f.ok
    · have hg : getS f i j = 0 := by unfold getS; rw [hok, Bool.and_false]; rfl
      rw [hg]; rw [show checkS f.C f.xs f.R f.T = false from hok] at HCK
      clear hg h hx hp hok k1 k2 k3 k4 k5
      generalize atI f.C i j = p at *
      go_enter Try.func26, Try.ntmps26
      go_wp2_with (go_at_call 43; refine (HAT.out _).mono ?_; rintro e w' ⟨rfl, rfl⟩)
      refine named ?_
      intro W hW
      obtain ⟨b0, hbW, hsz⟩ := boxes1 hW
      clear hW
      refine (HCK.out W (HX.out.below hbW)).mono ?_
      rintro e w1 ⟨rfl, hb1⟩
      have hB := hbW.trans (hb1.mono (by omega))
      clear hb1 hbW b0
      go_wp2
      go_ret
      exact ⟨rfl, hB⟩
    · have hl := ok_len hok
      have hst := st_in (N := (f.C + 1).toNat) (i := i.toNat) (d := j.toNat - i.toNat) (by omega) (by omega)
      have hlt : (atI f.C i j).toNat < f.xs.length := by omega
      have hg : getS f i j = f.xs[(atI f.C i j).toNat]?.getD 0 := by unfold getS; rw [h, hok]; rfl
      rw [hg]; rw [show checkS f.C f.xs f.R f.T = true from hok] at HCK
      have hl63 : f.xs.length ≤ 9223372036854775807 := Nat.le_trans hx.cap hx.room
      have HOK := Lib.hid hok
      clear hg h hp hl hst hok
      obtain ⟨q, hq⟩ : ∃ q : Nat, atI f.C i j = (q : Int) := ⟨_, (Int.toNat_of_nonneg hp0).symm⟩
      rw [hq, Int.toNat_natCast] at hlt ⊢
      rw [hq] at HAT
      clear hq hp0
      go_enter Try.func26, Try.ntmps26
      go_wp2_with (go_at_call 43; refine (HAT.out _).mono ?_; rintro e w' ⟨rfl, rfl⟩)
      refine named ?_
      intro W hW
      obtain ⟨b0, hbW, hsz⟩ := boxes1 hW
      clear hW
      refine (HCK.out W (HX.out.below hbW)).mono ?_
      rintro e w1 ⟨rfl, hb1⟩
      have hB := Lib.hid (hbW.trans (hb1.mono (by omega)))
      have b1 := b0.below hb1 (by omega)
      obtain ⟨r0, r1, r2, r3⟩ := b1.c4
      obtain ⟨b, off, hA, hbb, hc⟩ := ((HX.out.below hbW).below hb1).reads.2 (by omega)
      have hcell := hc q hlt
      subst hA
      clear hb1 hbW b0 b1 hc hx
      have hlt' : (q : Int) < (f.xs.length : Int) := by omega
      generalize hv : f.xs[q]?.getD 0 = x at hcell
      have HV := Lib.hid hv; clear hv
      go_wp2
      go_ret
      exact ⟨by rw [HV.out]; rfl, hB.out⟩

set_option maxRecDepth 100000 in
set_option maxHeartbeats 1000000 in
theorem has_any (f : Fct) (A : Option Addr) (c : Nat) (i : Int) (w : World) (hx : SlArg w A f.xs c) :
    Calls Try.prog 62 #[facV f.C A f.xs.length c f.R f.T, .int .i64 i] w fun e w' => e = .returned (.bool (hasS f i)) ∧ Below w.heap.size w w' := by
  have HX := Lib.hid hx
  have HCK := Lib.hid (fun W hW => check_any f.C A f.xs c f.R f.T W hW)
  unfold facV at HCK ⊢
  clear hx
  unfold hasS
  cases hok : f.ok
  all_goals
    rw [show checkS f.C f.xs f.R f.T = _ from hok] at HCK
    clear hok
    go_enter Try.func62, Try.ntmps62
    go_wp2_with fail
    refine named ?_
    intro W hW
    obtain ⟨b0, hbW, hsz⟩ := boxes1 hW
    clear hW
    refine (HCK.out W (HX.out.below hbW)).mono ?_
    rintro e w1 ⟨rfl, hb1⟩
    have hB := hbW.trans (hb1.mono (by omega))
    have b1 := b0.below hb1 (by omega)
    obtain ⟨r0, r1, r2, r3⟩ := b1.c4
    clear hb1 hbW b0 b1
  · go_wp2
    go_ret
    exact ⟨rfl, hB⟩
  · by_cases h1 : 0 ≤ i
    · go_wp2
      go_ret
      exact ⟨ret_t (by rw [Bool.true_and, decide_eq_decide]; omega), hB⟩
    · go_wp2
      go_ret
      exact ⟨ret_t (by rw [decide_eq_false (show ¬ 0 ≤ i by omega), Bool.false_and]), hB⟩

end Go.Proofs.Ytkhnoffhbfcgfaa
