/- The walk of TriNew. -/
import Derived.Test.YtlenlacjonhicaaCk
namespace Go.Proofs.Ytlenlacjonhicaa
open Go.RowKit Go.Shelf Lev

set_option maxRecDepth 100000 in
set_option maxHeartbeats 1000000 in
theorem triNew (C : Int) (w : World) (_ : -9223372036854775808 ≤ C ∧ C ≤ 9223372036854775807) :
    Calls Try.prog 8 #[.int .i64 C] w fun e w' => e = .returned (.bool true) ∧ Below w.heap.size w w' := by
  have hnew := new_any C w
  by_cases h : sizeI C = 0
  · have hE : newE C = 1 := by unfold newE; rw [if_pos h]
    have hS : newS C = Fct.zero := by unfold newS; rw [if_pos h]
    rw [hE, hS] at hnew
    have hsz := fun w => size_any C w
    rw [h] at hsz
    have HSZ := Lib.hid hsz; have HNEW := Lib.hid hnew
    clear h hE hS hnew hsz
    go_enter Try.func8, Try.ntmps8
    go_wp2_with fail
    refine HNEW.out.mono ?_
    rintro e w1 ⟨⟨v, rfl, A1, c1, rfl, hs1, _⟩, hb1⟩
    have K := (((Keep.start w).call hb1).alloc #[.int .i64 0, .slice A1 0 c1, .int .i64 0, .int .i64 0] 24).below
    clear hs1
    unfold facV Fct.zero
    go_wp2_with (go_at_call 14; refine (HSZ.out _).mono ?_; rintro e w' ⟨rfl, rfl⟩)
    refine (live07 _).mono ?_
    rintro e w2 ⟨rfl, hb⟩
    have HB := Lib.hid (Below.chain K hb)
    clear hb K
    go_wp2
    go_ret
    exact ⟨rfl, HB.out⟩
  · have hE : newE C = 0 := by unfold newE; rw [if_neg h]
    have hS : newS C = ⟨C, List.replicate (sizeI C).toNat 0, 0, 0⟩ := by unfold newS; rw [if_neg h]
    rw [hE, hS] at hnew
    have hC6 : 1 ≤ C ∧ C ≤ 6 := by
      unfold sizeI at h
      by_cases h2 : C < 1 ∨ 6 < C
      · rw [if_pos h2] at h; exact absurd rfl h
      · omega
    have h9 := size_st (N := (C + 1).toNat) hC6.1 hC6.2 (by omega)
    have hck := new_check hC6.1 hC6.2
    have hn : st (C + 1).toNat (C + 1).toNat ≤ 49 := by
      have h4 := st_all (C + 1).toNat
      have h5 : (C + 1).toNat ≤ 7 := by omega
      have h6 := Nat.mul_le_mul h5 h5
      omega
    have hn0 : 0 < st (C + 1).toNat (C + 1).toNat := by
      have h4 := st_all (C + 1).toNat
      have h5 : 2 ≤ (C + 1).toNat := by omega
      have h6 := Nat.mul_le_mul h5 h5
      omega
    have hsz := fun w => size_any C w
    rw [h9] at hsz hnew hck
    rw [Int.toNat_natCast] at hnew hck
    have HSZ := Lib.hid hsz; have HNEW := Lib.hid hnew; have HCK := Lib.hid hck
    clear h hE hS hnew hsz h9 hck hC6
    generalize st (C + 1).toNat (C + 1).toNat = n at *
    have hll : (List.replicate n 0).length = n := List.length_replicate
    have HLL := Lib.hid hll; clear hll
    go_enter Try.func8, Try.ntmps8
    go_wp2_with fail
    refine HNEW.out.mono ?_
    rintro e w1 ⟨⟨v, rfl, A1, c1, rfl, hs1, _⟩, hb1⟩
    rw [HLL.out]
    have K := (((Keep.start w).call hb1).more hs1).alloc #[.int .i64 C, .slice A1 n c1, .int .i64 0, .int .i64 0] 24
    clear hs1 hb1
    unfold facV
    obtain ⟨bl, off, hA, _, hcell⟩ := (K.arg (.head _)).reads.2 (by rw [HLL.out]; exact hn0)
    subst hA
    have HCE := Lib.hid hcell
    clear hcell
    obtain ⟨W, hW⟩ : ∃ W, W = w1.alloc (.cells #[.int .i64 C, .slice (some ⟨bl, off, none⟩) n c1, .int .i64 0, .int .i64 0] 24) := ⟨_, rfl⟩
    go_wp2_with fail
    rw [← hW]
    rw [← hW] at K HCE
    clear hW
    obtain ⟨r0, r1, r2, r3⟩ := (K.box (.head _)).c4
    go_loopw [5] (fun i wr => ∃ j m : Nat, i = .int .i64 (j : Int) ∧ j ≤ n ∧ wr = W.drewN m) (fun i _ => n - (intOf i).toNat)
    case atStart => exact ⟨0, 0, rfl, Nat.zero_le _, rfl⟩
    case round =>
      obtain ⟨j, m, rfl, hj, rfl⟩ := hrel
      by_cases hlt : (j : Int) < (n : Int)
      · have hcj := HCE.out j (by rw [HLL.out]; omega)
        rw [List.getElem?_replicate_of_lt (by omega)] at hcj
        have hss : sameS 0 0 = true := by decide +kernel
        simp only [Option.getD_some] at hcj
        go_wp2_with (go_at_call 21; refine (rsame_any 0 0 (by decide) (by decide) _).mono ?_; rintro e w' ⟨rfl, rfl⟩)
        go_roundw
        case rel => exact ⟨j + 1, m, by go_num, by omega, rfl⟩
        case measure => simp [intOf]; omega
      · obtain rfl : j = n := by omega
        have K2 := K.drewN m
        clear K r0 r1 r2 r3 HCE
        generalize W.drewN m = X at *
        have hck2 := check_any C (some ⟨bl, off, none⟩) (List.replicate j 0) c1 0 0
        rw [HCK.out, HLL.out] at hck2
        unfold facV at hck2
        have HC2 := Lib.hid hck2; clear hck2
        have hfb := K2.box (.head _)
        have KEEP : ∀ Y, Below X.heap.size X Y → (Y.cell? ⟨w1.heap.size, 0, none⟩ = some (.int .i64 C) ∧ Y.cell? ⟨w1.heap.size, 1, none⟩ = some (.slice (some ⟨bl, off, none⟩) j c1) ∧ Y.cell? ⟨w1.heap.size, 2, none⟩ = some (.int .i64 0) ∧ Y.cell? ⟨w1.heap.size, 3, none⟩ = some (.int .i64 0)) ∧ Below X.heap.size X Y :=
          fun Y h => ⟨(hfb.below h hfb.lt).c4, h⟩
        have HKEEP := Lib.hid KEEP
        clear KEEP
        obtain ⟨r0, r1, r2, r3⟩ := hfb.c4
        have hj0 : (0 : Int) < (j : Int) := by omega
        have hax := K2.arg (.head _)
        have HAX := Lib.hid hax
        clear hax
        go_wp2_with fail
        go_region_held3 (fun Y => (Y.cell? ⟨w1.heap.size, 0, none⟩ = some (.int .i64 C) ∧ Y.cell? ⟨w1.heap.size, 1, none⟩ = some (.slice (some ⟨bl, off, none⟩) j c1) ∧ Y.cell? ⟨w1.heap.size, 2, none⟩ = some (.int .i64 0) ∧ Y.cell? ⟨w1.heap.size, 3, none⟩ = some (.int .i64 0)) ∧ Below X.heap.size X Y)
          ((refine HKEEP.out _ ?_; repeat (first | assumption | exact Below.refl _ _ | refine Below.allocs ?_ _ | refine Below.drews ?_ | refine Below.chain ?_ (by assumption))))
          (first
            | (go_at_call 17; ((with_reducible refine (HC2.out _ (HAX.out.below (by repeat (first | assumption | exact Below.refl _ _ | refine Below.drews ?_)))).mono ?_); rintro e w5 ⟨rfl, hb5⟩))
            | (go_at_call 14; ((with_reducible refine (HSZ.out _).mono ?_); rintro e w' ⟨rfl, rfl⟩))
            | (go_at_call 9; ((with_reducible refine (live07 _).mono ?_); rintro e w5 ⟨rfl, hb5⟩)))
        all_goals
          go_wp2
          go_ret
          refine ⟨rfl, Below.chain K2.below ?_⟩
          repeat (first | assumption | exact Below.refl _ _ | refine Below.drews ?_ | refine Below.chain ?_ (by assumption))

end Go.Proofs.Ytlenlacjonhicaa
