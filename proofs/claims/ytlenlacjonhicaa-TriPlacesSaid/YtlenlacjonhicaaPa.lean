/- The walk of TriPlaces. -/
import Derived.Test.YtlenlacjonhicaaCk
namespace Go.Proofs.Ytlenlacjonhicaa
open Go.RowKit Go.Shelf Lev

set_option maxRecDepth 100000 in
set_option maxHeartbeats 1000000 in
theorem triPlaces (C i j : Int) (w : World) (_hC : -9223372036854775808 ≤ C ∧ C ≤ 9223372036854775807) (_hi : -9223372036854775808 ≤ i ∧ i ≤ 9223372036854775807) (_hj : -9223372036854775808 ≤ j ∧ j ≤ 9223372036854775807) :
    Calls Try.prog 5 #[.int .i64 C, .int .i64 i, .int .i64 j] w fun e w' => e = .returned (.bool true) ∧ Below w.heap.size w w' := by
  by_cases h : 1 ≤ C ∧ C ≤ 6
  · obtain ⟨h1, h6⟩ := h
    obtain ⟨N, hN⟩ : ∃ N : Nat, (N : Int) = C + 1 := ⟨(C + 1).toNat, by omega⟩
    have hNe : (C + 1).toNat = N := by omega
    have hsz := fun w => size_any C w
    rw [size_st h1 h6 hN] at hsz
    have HSZ := Lib.hid hsz; have HN := Lib.hid hN; have HNE := Lib.hid hNe
    have hat := fun w => at_any C i j w
    have HAT := Lib.hid hat
    have hcs : (atB C i j = true ∧ 0 ≤ i ∧ i ≤ j ∧ j ≤ C) ∨ (atB C i j = false ∧ i < 0) ∨ (atB C i j = false ∧ 0 ≤ i ∧ j < i) ∨ (atB C i j = false ∧ 0 ≤ i ∧ i ≤ j ∧ C < j) := by
      cases hb : atB C i j
      · have : ¬ (1 ≤ C ∧ C ≤ 6 ∧ 0 ≤ i ∧ i ≤ j ∧ j ≤ C) := by unfold atB at hb; simpa using hb
        simp only [Bool.false_eq_true, false_and, false_or, true_and]
        omega
      · exact .inl ⟨rfl, (atB_iff.1 hb).2.2⟩
    have HCS := Lib.hid hcs
    clear hsz hN hNe hat hcs
    generalize atI C i j = p at *
    generalize hb : atB C i j = b at *
    have e1 : ¬ C < 1 := by omega
    have e2 : ¬ 6 < C := by omega
    clear hb
    go_enter Try.func5, Try.ntmps5
    go_wp2_with fail
    refine (HAT.out _).mono ?_
    rintro e w' ⟨rfl, rfl⟩
    go_wp2_with fail
    go_loop [9, 10, 11, 12, 13] (fun k r _ _ _ => ∃ m s : Nat, m ≤ N ∧ s = st N m ∧ s ≤ 49 ∧ k = .int .i64 (s : Int) ∧ r = .int .i64 (m : Int)) (fun _ r _ _ _ => (C + 1 - intOf r).toNat)
    case atStart => exact ⟨0, 0, Nat.zero_le _, rfl, by decide, rfl, rfl⟩
    case round =>
      obtain ⟨m, s, hm, hs, hs49, rfl, rfl⟩ := hrel
      have HS := Lib.hid hs; clear hs
      by_cases hlt : (m : Int) ≤ C
      · go_wp2_with fail
        go_loop [9, 11, 12, 13] (fun k c _ _ => ∃ d : Nat, m + d ≤ N ∧ k = .int .i64 ((s + d : Nat) : Int) ∧ c = .int .i64 ((m + d : Nat) : Int)) (fun _ c _ _ => (C + 1 - intOf c).toNat)
        case atStart => exact ⟨0, hm, rfl, rfl⟩
        case round =>
          obtain ⟨d, hd, rfl, rfl⟩ := hrel
          by_cases hlt2 : ((m + d : Nat) : Int) ≤ C
          · have hatB : atB C (m : Int) ((m + d : Nat) : Int) = true := atB_iff.2 (by omega)
            have hatI : atI C (m : Int) ((m + d : Nat) : Int) = ((s + d : Nat) : Int) := by
              unfold atI; rw [if_pos hatB, Int.toNat_natCast, HNE.out, ← HS.out]; omega
            have hat := fun w => at_any C (m : Int) ((m + d : Nat) : Int) w
            rw [hatB, hatI] at hat
            have HAT2 := Lib.hid hat
            have hsd : s + d ≤ 60 := by have := HN.out; omega
            clear hat hatB hatI
            go_wp2_with fail
            refine (HAT2.out _).mono ?_
            rintro e w' ⟨rfl, rfl⟩
            go_wp2
            go_round
            case rel => exact ⟨d + 1, by have := HN.out; omega, by go_num, by go_num⟩
            case measure => simp [intOf]; omega
          · have hmd : m + d = N := by have := HN.out; omega
            have hstep : s + d = st N (m + 1) := by rw [st_succ, ← HS.out]; omega
            have hle := st_le (N := N) (k := m + 1) (m := N) (by have := HN.out; omega)
            have hall := st_all N
            have h7 : N ≤ 7 := by have := HN.out; omega
            have h49 := Nat.mul_le_mul h7 h7
            have hsd : s + d ≤ 49 := by omega
            have HST := Lib.hid hstep; have HMD := Lib.hid hmd
            clear hstep hmd hall h49 hle
            go_wp2
            go_round
            case rel => exact ⟨m + 1, s + d, by have := HN.out; omega, HST.out, hsd, rfl, by go_num⟩
            case measure => simp [intOf]; omega
      · obtain rfl : m = N := by have := HN.out; omega
        have hs2 := HS.out
        rw [← hs2] at HSZ
        clear hs2
        rcases HCS.out with ⟨rfl, a1, a2, a3⟩ | ⟨rfl, a1⟩ | ⟨rfl, a1, a2⟩ | ⟨rfl, a1, a2, a3⟩
        all_goals
          go_wp2_with (go_at_call 14; refine (HSZ.out _).mono ?_; rintro e w' ⟨rfl, rfl⟩)
          refine (live07 _).mono ?_
          rintro e w' ⟨rfl, hb⟩
          have HB := Lib.hid hb
          clear hb
          go_wp2
          go_ret
          first
          | exact ⟨rfl, HB.out⟩
          | exact ⟨ret_t (by rw [decide_eq_false (by omega)]; rfl), HB.out⟩
  · have hb : atB C i j = false := by unfold atB; rw [decide_eq_false_iff_not]; omega
    have hsz0 : sizeI C = 0 := by unfold sizeI; rw [if_pos (by omega)]
    have hsz := fun w => size_any C w
    rw [hsz0] at hsz
    have hat := fun w => at_any C i j w
    rw [hb] at hat
    have HSZ := Lib.hid hsz; have HAT := Lib.hid hat
    have hcs : C < 1 ∨ (¬ C < 1 ∧ 6 < C) := by omega
    clear hsz hat hb hsz0 h
    generalize atI C i j = p at *
    rcases hcs with e1 | ⟨e1, e2⟩
    all_goals
      go_enter Try.func5, Try.ntmps5
      go_wp2_with fail
      refine (HAT.out _).mono ?_
      rintro e w' ⟨rfl, rfl⟩
      go_wp2_with (go_at_call 14; refine (HSZ.out _).mono ?_; rintro e w' ⟨rfl, rfl⟩)
      refine (live07 _).mono ?_
      rintro e w' ⟨rfl, hb⟩
      have HB := Lib.hid hb
      clear hb
      go_wp2
      go_ret
      exact ⟨rfl, HB.out⟩

end Go.Proofs.Ytlenlacjonhicaa
