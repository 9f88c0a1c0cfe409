/- What the document gives for layer 1, and the four statements' walks. -/
import Derived.Test.YtlkgkgnkmjbnjaaBi
namespace Go.Proofs.Ytlkgkgnkmjbnjaa
open Go.RowKit Lev

attribute [local go_sem] run_fbits run_frombits order_lt order_gt order_eq order_ne flt_or_feq flt_or_feq' p_400 p400

theorem l1 : nS 13826050856027422720 = true := by decide
theorem l2 : mS 13826050856027422720 = 4503599627370496 := by decide
theorem l3 : eS 13826050856027422720 = -53 := by decide
theorem l4 : kindS 13826050856027422720 = 1 := by decide
theorem l5 : makeF false 3 (-1) = 4609434218613702656 := by decide +kernel
theorem l6 : makeB 3 (-1) = true := by decide +kernel
theorem l7 : makeB 9007199254740993 0 = false := by decide +kernel
theorem l8 : scaleF 4613937818241073152 (-1074) = 3 := by decide +kernel
theorem l9 : scaleB 4613937818241073152 (-1074) = true := by decide +kernel
theorem l10 : scaleB 4613937818241073152 (-1075) = false := by decide +kernel
theorem l11 : makeF false 1 10 = 4652218415073722368 := by decide +kernel
theorem l12 : makeF false 1 1024 = 0 := by decide +kernel
theorem l13 : topB 4617315517961601024 = 2 := by decide
theorem l14 : topB 0 = -2000 := by decide
theorem l15 : inS 0 = true := by decide
theorem l16 : inS 2805742567851819008 = true := by decide
theorem l17 : makeF false 1 (-401) = 2801238968224448512 := by decide +kernel
theorem l18 : inS 2801238968224448512 = false := by decide
theorem l19 : sameS 4607182418800017408 4607182418800017408 = true := by decide
theorem l20 : sameS 4607182418800017408 4609434218613702656 = false := by decide
theorem l21 : feq 4609434218613702656 4609434218613702656 = true := by decide
theorem l22 : flt 0 3 = true := by decide
theorem l23 : feq 4652218415073722368 4652218415073722368 = true := by decide
theorem l24 : feq 0 0 = true := by decide
attribute [local go_sem] l1 l2 l3 l4 l5 l6 l7 l8 l9 l10 l11 l12 l13 l14 l15 l16 l17 l18 l19 l20 l21 l22 l23 l24

theorem make_int (neg : Bool) (m e : Int) (h0 : 0 ≤ m) (hm : m < 18446744073709551616) (w : World) :
    Calls Try.prog 35 #[.bool neg, .int .u64 m, .int .i64 e] w fun en w' => en = .returned (.tuple #[.float .f64 (makeF neg m.toNat e), .bool (makeB m.toNat e)]) ∧ w = w' := by
  obtain ⟨n, rfl⟩ := Int.eq_ofNat_of_zero_le h0
  rw [Int.toNat_natCast]
  exact make_any neg n e (by omega) w

set_option maxHeartbeats 1000000 in
set_option maxRecDepth 100000 in
theorem live01 (w : World) : Calls Try.prog 34 #[] w fun e w' => e = .returned (.bool true) ∧ w = w' := by
  have hs := fun b hb => split_any b hb
  unfold splitV at hs
  have HS := Lib.hid hs; clear hs
  go_enter Try.func34, Try.ntmps34
  go_wp2_with (first
    | (go_at_call 26; ((with_reducible refine (HS.out _ (by decide) _).mono ?_); rintro e w' ⟨rfl, rfl⟩))
    | (go_at_call 35; ((with_reducible refine (make_int _ _ _ (by decide) (by decide) _).mono ?_); rintro e w' ⟨rfl, rfl⟩))
    | (go_at_call 39; ((with_reducible refine (scale_any _ _ (by decide) _).mono ?_); rintro e w' ⟨rfl, rfl⟩))
    | (go_at_call 37; ((with_reducible refine (pow_any _ _).mono ?_); rintro e w' ⟨rfl, rfl⟩))
    | (go_at_call 28; ((with_reducible refine (top_any _ (by decide) _).mono ?_); rintro e w' ⟨rfl, rfl⟩))
    | (go_at_call 30; ((with_reducible refine (in_any _ (by decide) _).mono ?_); rintro e w' ⟨rfl, rfl⟩))
    | (go_at_call 32; ((with_reducible refine (same_any _ _ _).mono ?_); rintro e w' ⟨rfl, rfl⟩)))

  go_ret
  exact ⟨rfl, rfl⟩

attribute [local go_sem] sameS_self

set_option maxHeartbeats 1000000 in
theorem bitsTell (x y : Nat) (hx : x < 18446744073709551616) (hy : y < 18446744073709551616) (w : World) :
    Calls Try.prog 7 #[.float .f64 x, .float .f64 y] w fun e w' => e = .returned (.bool true) ∧ w = w' := by
  have hs := split_any x hx
  have hr := rsplit_any x hx
  unfold splitV at hs hr
  have HS := Lib.hid hs; clear hs
  have HR := Lib.hid hr; clear hr
  go_enter Try.func7, Try.ntmps7
  go_wp2_with (first
    | (go_at_call 26; ((with_reducible refine (HS.out _).mono ?_); rintro e w' ⟨rfl, rfl⟩))
    | (go_at_call 27; ((with_reducible refine (HR.out _).mono ?_); rintro e w' ⟨rfl, rfl⟩))
    | (go_at_call 28; ((with_reducible refine (top_any _ hx _).mono ?_); rintro e w' ⟨rfl, rfl⟩))
    | (go_at_call 29; ((with_reducible refine (rtop_any _ hx _).mono ?_); rintro e w' ⟨rfl, rfl⟩))
    | (go_at_call 30; ((with_reducible refine (in_any _ hx _).mono ?_); rintro e w' ⟨rfl, rfl⟩))
    | (go_at_call 31; ((with_reducible refine (rin_any _ hx _).mono ?_); rintro e w' ⟨rfl, rfl⟩))
    | (go_at_call 32; ((with_reducible refine (same_any _ _ _).mono ?_); rintro e w' ⟨rfl, rfl⟩))
    | (go_at_call 33; ((with_reducible refine (rsame_any _ _ hx hy _).mono ?_); rintro e w' ⟨rfl, rfl⟩))
    | (go_at_call 34; ((with_reducible refine (live01 _).mono ?_); rintro e w' ⟨rfl, rfl⟩)))
  go_ret
  exact ⟨rfl, rfl⟩

set_option maxHeartbeats 1000000 in
theorem bitsMake (neg : Bool) (m : Nat) (e : Int) (hm : m < 18446744073709551616) (w : World) :
    Calls Try.prog 8 #[.bool neg, .int .u64 (m : Int), .int .i64 e] w fun e w' => e = .returned (.bool true) ∧ w = w' := by
  have hl := make_lt neg m e
  have hl2 := make_lt false 1 e
  go_enter Try.func8, Try.ntmps8
  go_wp2_with (first
    | (go_at_call 35; ((with_reducible refine (make_any neg m e hm _).mono ?_); rintro e w' ⟨rfl, rfl⟩))
    | (go_at_call 36; ((with_reducible refine (rmake_any neg m e hm _).mono ?_); rintro e w' ⟨rfl, rfl⟩))
    | (go_at_call 37; ((with_reducible refine (pow_any _ _).mono ?_); rintro e w' ⟨rfl, rfl⟩))
    | (go_at_call 38; ((with_reducible refine (rpow_any _ _).mono ?_); rintro e w' ⟨rfl, rfl⟩))
    | (go_at_call 33; ((with_reducible refine (rsame_any _ _ hl hl _).mono ?_); rintro e w' ⟨rfl, rfl⟩))
    | (go_at_call 33; ((with_reducible refine (rsame_any _ _ hl2 hl2 _).mono ?_); rintro e w' ⟨rfl, rfl⟩))
    | (go_at_call 34; ((with_reducible refine (live01 _).mono ?_); rintro e w' ⟨rfl, rfl⟩)))
  go_ret
  exact ⟨rfl, rfl⟩

theorem scaleF_lt {b : Nat} (hb : b < 18446744073709551616) (k : Int) : scaleF b k < 18446744073709551616 := by
  unfold scaleF; split
  · exact hb
  · split
    · exact make_lt _ _ _
    · decide

set_option maxHeartbeats 1000000 in
theorem bitsScale (x : Nat) (k : Int) (hx : x < 18446744073709551616) (w : World) :
    Calls Try.prog 9 #[.float .f64 x, .int .i64 k] w fun e w' => e = .returned (.bool true) ∧ w = w' := by
  have hl := scaleF_lt hx k
  cases hb : scaleB x k
  · have HS := Lib.hid (fun w => scale_any x k hx w); rw [hb] at HS
    have HR := Lib.hid (fun w => rscale_any x k hx w); rw [hb] at HR
    clear hb
    go_enter Try.func9, Try.ntmps9
    go_wp2_with (first
      | (go_at_call 39; ((with_reducible refine (HS.out _).mono ?_); rintro e w' ⟨rfl, rfl⟩))
      | (go_at_call 40; ((with_reducible refine (HR.out _).mono ?_); rintro e w' ⟨rfl, rfl⟩))
      | (go_at_call 33; ((with_reducible refine (rsame_any _ _ hl hl _).mono ?_); rintro e w' ⟨rfl, rfl⟩))
      | (go_at_call 34; ((with_reducible refine (live01 _).mono ?_); rintro e w' ⟨rfl, rfl⟩)))
    go_ret
    exact ⟨rfl, rfl⟩
  · have HS := Lib.hid (fun w => scale_any x k hx w); rw [hb] at HS
    have HR := Lib.hid (fun w => rscale_any x k hx w); rw [hb] at HR
    obtain ⟨q1, q2⟩ := scale_back hx hb
    have HB := Lib.hid (fun w => scale_any (scaleF x k) (-k) hl w); rw [q1, q2] at HB
    clear hb q1 q2
    by_cases c1 : k < -4000
    · go_enter Try.func9, Try.ntmps9
      go_wp2_with (first
        | (go_at_call 39; ((with_reducible refine (HS.out _).mono ?_); rintro e w' ⟨rfl, rfl⟩))
        | (go_at_call 40; ((with_reducible refine (HR.out _).mono ?_); rintro e w' ⟨rfl, rfl⟩))
        | (go_at_call 33; ((with_reducible refine (rsame_any _ _ hl hl _).mono ?_); rintro e w' ⟨rfl, rfl⟩))
        | (go_at_call 34; ((with_reducible refine (live01 _).mono ?_); rintro e w' ⟨rfl, rfl⟩)))
      go_ret
      exact ⟨rfl, rfl⟩
    · by_cases c2 : 4000 < k
      · go_enter Try.func9, Try.ntmps9
        go_wp2_with (first
          | (go_at_call 39; ((with_reducible refine (HS.out _).mono ?_); rintro e w' ⟨rfl, rfl⟩))
          | (go_at_call 40; ((with_reducible refine (HR.out _).mono ?_); rintro e w' ⟨rfl, rfl⟩))
          | (go_at_call 33; ((with_reducible refine (rsame_any _ _ hl hl _).mono ?_); rintro e w' ⟨rfl, rfl⟩))
          | (go_at_call 34; ((with_reducible refine (live01 _).mono ?_); rintro e w' ⟨rfl, rfl⟩)))
        go_ret
        exact ⟨rfl, rfl⟩
      · go_enter Try.func9, Try.ntmps9
        go_wp2_with (first
          | (go_at_call 39; ((with_reducible refine (HS.out _).mono ?_); rintro e w' ⟨rfl, rfl⟩))
          | (go_at_call 39; ((with_reducible refine (HB.out _).mono ?_); rintro e w' ⟨rfl, rfl⟩))
          | (go_at_call 40; ((with_reducible refine (HR.out _).mono ?_); rintro e w' ⟨rfl, rfl⟩))
          | (go_at_call 33; ((with_reducible refine (rsame_any _ _ hl hl _).mono ?_); rintro e w' ⟨rfl, rfl⟩))
          | (go_at_call 33; ((with_reducible refine (rsame_any _ _ hx hx _).mono ?_); rintro e w' ⟨rfl, rfl⟩))
          | (go_at_call 34; ((with_reducible refine (live01 _).mono ?_); rintro e w' ⟨rfl, rfl⟩)))
        go_ret
        exact ⟨rfl, rfl⟩

set_option maxHeartbeats 1000000 in
theorem bitsBack (x : Nat) (hx : x < 18446744073709551616) (w : World) :
    Calls Try.prog 10 #[.float .f64 x] w fun e w' => e = .returned (.bool true) ∧ w = w' := by
  have HS := Lib.hid (fun w => split_any x hx w)
  rcases kind_cases x with h | ⟨h, hf, h0⟩ | h | h
  · rw [splitV_0 h] at HS
    have HM := Lib.hid (fun w => make_zero (sg x) 0 w)
    rw [← kindS_0 h, word_sg_rg x hx] at HM
    clear h
    go_enter Try.func10, Try.ntmps10
    go_wp2_with (first
      | (go_at_call 26; ((with_reducible refine (HS.out _).mono ?_); rintro e w' ⟨rfl, rfl⟩))
      | (go_at_call 35; ((with_reducible refine (HM.out _).mono ?_); rintro e w' ⟨rfl, rfl⟩))
      | (go_at_call 32; ((with_reducible refine (same_any _ _ _).mono ?_); rintro e w' ⟨rfl, rfl⟩))
      | (go_at_call 34; ((with_reducible refine (live01 _).mono ?_); rintro e w' ⟨rfl, rfl⟩)))
    go_ret
    exact ⟨rfl, rfl⟩
  · rw [splitV_1 h] at HS
    have hk : kindS x ≤ 1 := by omega
    have hmk := split_make hx hk
    have hfa := split_facts h
    have e1 : mS x = mantS x := by unfold mS; rw [if_pos h]
    have e2 : eS x = expS x := by unfold eS; rw [if_pos h]
    have e3 : nS x = sg x := by unfold nS; rw [h]; rfl
    rw [e1, e2, e3] at hmk
    rw [e1, e2] at hfa
    obtain ⟨f1, f2, f3, f4, f5, f6⟩ := hfa
    have HM := Lib.hid (fun w => make_any (sg x) (mantS x) (expS x) (by omega) w)
    rw [hmk.1, hmk.2] at HM
    generalize mantS x = M at *
    generalize expS x = E at *
    generalize hT : topB x = T at *
    have HT := Lib.hid (fun w => top_any x hx w)
    rw [hT] at HT
    have g1 : decide (1 ≤ (M : Int)) = true := decide_eq_true (by omega)
    have g2 : decide ((M : Int) < 9007199254740992) = true := decide_eq_true (by omega)
    have g3 : decide (-1074 ≤ E) = true := decide_eq_true (by omega)
    have g5 : decide (E ≤ T) = true := decide_eq_true (by omega)
    have g6 : decide (T ≤ E + 52) = true := decide_eq_true (by omega)
    have g7 : E ≤ 1023 := by have := topS_hi hf; have e4 : topB x = topS x := by unfold topB; rw [if_pos h]
                             omega
    clear hT e1 e2 e3 hmk h hk h0 hf
    rcases (by omega : 4503599627370496 ≤ M ∨ (E = -1074 ∧ M < 4503599627370496)) with f4 | ⟨f4, f7⟩
    · have g4 : decide (4503599627370496 ≤ (M : Int)) = true := decide_eq_true (by omega)
      clear f1 f2 f4 f5 f6
      go_enter Try.func10, Try.ntmps10
      go_wp2_with (first
        | (go_at_call 26; ((with_reducible refine (HS.out _).mono ?_); rintro e w' ⟨rfl, rfl⟩))
        | (go_at_call 35; ((with_reducible refine (HM.out _).mono ?_); rintro e w' ⟨rfl, rfl⟩))
        | (go_at_call 32; ((with_reducible refine (same_any _ _ _).mono ?_); rintro e w' ⟨rfl, rfl⟩))
        | (go_at_call 28; ((with_reducible refine (HT.out _).mono ?_); rintro e w' ⟨rfl, rfl⟩))
        | (go_at_call 34; ((with_reducible refine (live01 _).mono ?_); rintro e w' ⟨rfl, rfl⟩)))
      go_ret
      exact ⟨rfl, rfl⟩
    · have g8 : (E == -1074) = true := by rw [beq_iff_eq]; exact f4
      clear f4
      · have g4 : decide (4503599627370496 ≤ (M : Int)) = false := decide_eq_false (by omega)
        clear f1 f2 f5 f6 f7
        go_enter Try.func10, Try.ntmps10
        go_wp2_with (first
          | (go_at_call 26; ((with_reducible refine (HS.out _).mono ?_); rintro e w' ⟨rfl, rfl⟩))
          | (go_at_call 35; ((with_reducible refine (HM.out _).mono ?_); rintro e w' ⟨rfl, rfl⟩))
          | (go_at_call 32; ((with_reducible refine (same_any _ _ _).mono ?_); rintro e w' ⟨rfl, rfl⟩))
          | (go_at_call 28; ((with_reducible refine (HT.out _).mono ?_); rintro e w' ⟨rfl, rfl⟩))
          | (go_at_call 34; ((with_reducible refine (live01 _).mono ?_); rintro e w' ⟨rfl, rfl⟩)))
        go_ret
        exact ⟨rfl, rfl⟩
  all_goals
    have h2 : 2 ≤ kindS x := by omega
    have hi := inS_no h2
    have ht := topB_no (x := x) (by omega)
    first | rw [splitV_2 h] at HS | rw [splitV_3 h] at HS
    clear h h2
    go_enter Try.func10, Try.ntmps10
    go_wp2_with (first
      | (go_at_call 26; ((with_reducible refine (HS.out _).mono ?_); rintro e w' ⟨rfl, rfl⟩))
      | (go_at_call 28; ((with_reducible refine (top_any _ hx _).mono ?_); rintro e w' ⟨rfl, rfl⟩))
      | (go_at_call 30; ((with_reducible refine (in_any _ hx _).mono ?_); rintro e w' ⟨rfl, rfl⟩))
      | (go_at_call 34; ((with_reducible refine (live01 _).mono ?_); rintro e w' ⟨rfl, rfl⟩)))
    go_ret
    exact ⟨rfl, rfl⟩

end Go.Proofs.Ytlkgkgnkmjbnjaa
