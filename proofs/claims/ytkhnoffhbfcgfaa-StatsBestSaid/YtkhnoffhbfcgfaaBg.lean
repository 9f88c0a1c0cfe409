/- Contracts of the document's answers for layer 1. -/
import Derived.Test.YtkhnoffhbfcgfaaBf
namespace Go.Proofs.Ytkhnoffhbfcgfaa
open Go.RowKit Lev

attribute [local go_sem] run_fbits run_frombits order_lt order_gt order_eq order_ne flt_or_feq flt_or_feq' p_400 p400

theorem neg_bit {b : Nat} (hb : b < 18446744073709551616) : ((b : Int) / 9223372036854775808 == 1) = sg b := by
  rw [sg_lt hb, Bool.eq_iff_iff, beq_iff_eq, decide_eq_true_eq]; omega
theorem frac_bits {b : Nat} (hb : b < 18446744073709551616) : bits .and .u64 (b : Int) 4503599627370495 = (rg b % 4503599627370496 : Nat) := by
  have h := u64_and_nat b 4503599627370495 hb (by decide)
  rw [and52, mod52] at h
  exact h

set_option maxHeartbeats 400000 in
theorem rsplit_any (b : Nat) (hb : b < 18446744073709551616) (w : World) :
    Calls Try.prog 36 #[.float .f64 b] w fun e w' => e = .returned (splitV b) ∧ w = w' := by
  have hI := INF_eq
  have h1 := neg_bit hb
  have h2 := get_exp hb
  have h3 := frac_bits hb
  have hm : mantS b = if rg b / 4503599627370496 = 0 then rg b % 4503599627370496 else 4503599627370496 + rg b % 4503599627370496 := by
    unfold mantS; split <;> split <;> omega
  have he : expS b = if rg b / 4503599627370496 = 0 then (-1074 : Int) else ((rg b / 4503599627370496 : Nat) : Int) - 1075 := by
    unfold expS; split <;> split <;> omega
  have hq : rg b / 4503599627370496 < 2048 := efield b
  have hf : rg b % 4503599627370496 < 4503599627370496 := Nat.mod_lt _ (by decide)
  have hk : kindS b = if rg b / 4503599627370496 = 2047 then (if rg b % 4503599627370496 = 0 then 2 else 3) else (if rg b / 4503599627370496 = 0 ∧ rg b % 4503599627370496 = 0 then 0 else 1) := by
    unfold kindS; repeat' split
    all_goals omega
  generalize rg b / 4503599627370496 = q at *
  generalize rg b % 4503599627370496 = f at *
  have HM := Lib.hid hm; have HE := Lib.hid he; have HK := Lib.hid hk
  clear hm he hk hI
  by_cases c1 : q = 2047
  · subst c1
    by_cases c2 : f = 0
    · subst c2
      rw [splitV_2 (by rw [HK.out]; rfl)]
      go_enter Try.func36, Try.ntmps36
      go_wp2
      refine bodyPost_ret (results_tmp4 rfl _ _ _) rfl ?_
      exact ⟨rfl, rfl⟩
    · rw [splitV_3 (by rw [HK.out, if_pos rfl, if_neg c2])]
      have c3 : ((f : Int) != 0) = true := by rw [bne_iff_ne]; omega
      clear c2
      go_enter Try.func36, Try.ntmps36
      go_wp2
      refine bodyPost_ret (results_tmp4 rfl _ _ _) rfl ?_
      exact ⟨rfl, rfl⟩
  · have c3 : ((q : Int) == 2047) = false := by rw [beq_eq_false_iff_ne]; omega
    by_cases c4 : q = 0
    · subst c4
      by_cases c2 : f = 0
      · subst c2
        rw [splitV_0 (by rw [HK.out]; rfl)]
        clear c3 c1
        go_enter Try.func36, Try.ntmps36
        go_wp2
        refine bodyPost_ret (results_tmp4 rfl _ _ _) rfl ?_
        exact ⟨rfl, rfl⟩
      · have c5 : ((f : Int) == 0) = false := by rw [beq_eq_false_iff_ne]; omega
        rw [splitV_1 (by rw [HK.out, if_neg (by decide), if_neg (by omega)]), HM.out, HE.out, if_pos rfl, if_pos rfl]
        clear c3 c1 c2
        go_enter Try.func36, Try.ntmps36
        go_wp2
        refine bodyPost_ret (results_tmp4 rfl _ _ _) rfl ?_
        exact ⟨rfl, rfl⟩
    · have c5 : ((q : Int) == 0) = false := by rw [beq_eq_false_iff_ne]; omega
      rw [splitV_1 (by rw [HK.out, if_neg c1, if_neg (by omega)]), HM.out, HE.out, if_neg c4, if_neg c4]
      clear c1 c4
      go_enter Try.func36, Try.ntmps36
      go_wp2
      refine bodyPost_ret (results_tmp4 rfl _ _ _) rfl ?_
      exact ⟨ret_split4 rfl (by omega) rfl rfl, rfl⟩


set_option maxHeartbeats 1000000 in
set_option maxRecDepth 100000 in
theorem rmake_pos (m : Nat) (e : Int) (hm : m < 18446744073709551616) (hm0 : 0 < m) (h1 : ((m : Int) == 0) = false) (h2 : ¬ e < -2000) (h3 : ¬ 2000 < e) (w : World) :
    Calls Try.prog 64 #[.bool false, .int .u64 (m : Int), .int .i64 e] w fun en w' => en = .returned (.tuple #[.float .f64 (makeF false m e), .bool (makeB m e)]) ∧ w = w' := by
  go_enter Try.func64, Try.ntmps64
  go_wp2
  go_loop [1, 2] (fun a x => ∃ M j : Nat, M * 2 ^ j = m ∧ 0 < M ∧ a = .int .u64 (M : Int) ∧ x = .int .i64 (e + (j : Int))) (fun a _ => (intOf a).toNat)
  case atStart => exact ⟨m, 0, by simp, hm0, rfl, by simp⟩
  case round =>
    obtain ⟨M, j, hM, hM0, rfl, rfl⟩ := hrel
    have hj := shift_few hM hM0 hm
    have hMm := shift_le hM
    have KV := Lib.hid (shift_val (e := e) hM)
    have KM := Lib.hid hM; clear hM
    have i0 : 1 ≤ (M : Int) := by omega
    have i64 : (M : Int) ≤ 18446744073709551615 := by omega
    have Km := Lib.hid hm; have KMm := Lib.hid hMm
    clear hm hMm hm0 h1
    obtain ⟨E, hE⟩ : ∃ E : Int, E = e + j := ⟨_, rfl⟩
    rw [← hE] at KV ⊢
    have hE1 : -2000 ≤ E ∧ E ≤ 2064 := by omega
    have KE := Lib.hid hE; clear hE h2 h3
    by_cases c1 : M % 2 = 0
    · have d1 : ((M : Int) % 2 == 0) = true := by rw [beq_iff_eq]; omega
      have KP := Lib.hid c1; clear c1
      by_cases c2 : 9007199254740992 ≤ M
      · have d2 : decide (9007199254740992 ≤ (M : Int)) = true := decide_eq_true (by omega)
        have KC := Lib.hid c2; clear c2
        go_wp2
        go_round
        case rel => exact ⟨M / 2, j + 1, shift_half KM.out KP.out, by have := KP.out; omega, by simp, by rw [KE.out]; go_num⟩
        case measure => simp [intOf]; omega
      · have d2 : decide (9007199254740992 ≤ (M : Int)) = false := decide_eq_false (by omega)
        have KC := Lib.hid c2; clear c2
        by_cases c3 : E < -1074
        · have d3 : decide (E < -1074) = true := decide_eq_true c3
          have KD := Lib.hid c3; clear c3
          go_wp2
          go_round
          case rel => exact ⟨M / 2, j + 1, shift_half KM.out KP.out, by have := KP.out; omega, by simp, by rw [KE.out]; go_num⟩
          case measure => simp [intOf]; omega
        · have d3 : decide (E < -1074) = false := decide_eq_false c3
          have hor : M % 2 = 1 ∨ (M < 9007199254740992 ∧ -1074 ≤ E) := .inr ⟨by have := KC.out; omega, by omega⟩
          have KO := Lib.hid hor; clear hor
          have KD := Lib.hid c3; clear c3
          go_wp2
          clear d1
          go_loop [1, 2] (fun a x => ∃ (N : Nat) (F : Int), (N : Rat) * pw F = (m : Rat) * pw e ∧ N < 18446744073709551616 ∧ 0 < N ∧ F ≤ E ∧ -2000 ≤ F ∧ (N % 2 = 1 ∨ (N < 9007199254740992 ∧ -1074 ≤ F)) ∧ a = .int .u64 (N : Int) ∧ x = .int .i64 F) (fun _ x => (intOf x + 1074).toNat)
          case atStart => exact ⟨M, E, KV.out, by omega, hM0, Int.le_refl _, by omega, KO.out, rfl, rfl⟩
          case round =>
            obtain ⟨N, F, hN, hN64, hN0, hFE, hFlo, hNO, rfl, rfl⟩ := hrel
            have KN := Lib.hid hN; clear hN
            have KNO := Lib.hid hNO; clear hNO
            have j0 : 1 ≤ (N : Int) := by omega
            have j64 : (N : Int) ≤ 18446744073709551615 := by omega
            have K64 := Lib.hid hN64; clear hN64
            by_cases hc : N < 4503599627370496 ∧ -1074 < F
            · obtain ⟨hc1, hc2⟩ := hc
              have e1 : decide ((N : Int) < 4503599627370496) = true := decide_eq_true (by omega)
              have e2 : decide (-1074 < F) = true := decide_eq_true hc2
              have u1 : (N : Int) ≤ 4503599627370495 := by omega
              have KC1 := Lib.hid hc1; have KC2 := Lib.hid hc2
              clear hc1 hc2
              go_wp2
              go_round
              case rel => exact ⟨2 * N, F - 1, by rw [double_val]; exact KN.out, by have := KC1.out; omega, by omega, by omega, by have := KC2.out; omega, .inr ⟨by have := KC1.out; omega, by have := KC2.out; omega⟩, by first | go_num | (congr 1; omega), by first | rfl | go_num⟩
              case measure => have := KC2.out; simp [intOf]; omega
            · have KC := Lib.hid hc
              by_cases hn : 9007199254740992 ≤ N ∨ F < -1074 ∨ 971 < F
              · have hno := ref_no KNO.out hc hn
                rw [KN.out] at hno
                obtain ⟨q1, q2⟩ := make_no (by have := shift_le KM.out; omega) hno
                have K1 := Lib.hid q1
                have K2 := Lib.hid (q2 false)
                clear hno q1 q2
                rcases hn with hn | hn | hn
                · have e1 : decide ((N : Int) < 4503599627370496) = false := decide_eq_false (by omega)
                  have e2 : decide (9007199254740992 ≤ (N : Int)) = true := decide_eq_true (by omega)
                  clear hn hc
                  go_wp2
                  go_ret2
                  exact ⟨ret_fb K2.out.symm K1.out.symm, rfl⟩
                · have e3 : decide (-1074 < F) = false := decide_eq_false (by omega)
                  have e4 : decide (F < -1074) = true := decide_eq_true hn
                  clear hn hc
                  by_cases hx : N < 4503599627370496
                  · have e1 : decide ((N : Int) < 4503599627370496) = true := decide_eq_true (by omega)
                    have e2 : decide (9007199254740992 ≤ (N : Int)) = false := decide_eq_false (by omega)
                    clear hx
                    go_wp2
                    go_ret2
                    exact ⟨ret_fb K2.out.symm K1.out.symm, rfl⟩
                  · have e1 : decide ((N : Int) < 4503599627370496) = false := decide_eq_false (by omega)
                    clear hx
                    by_cases hy : 9007199254740992 ≤ N
                    · have e2 : decide (9007199254740992 ≤ (N : Int)) = true := decide_eq_true (by omega)
                      clear hy
                      go_wp2
                      go_ret2
                      exact ⟨ret_fb K2.out.symm K1.out.symm, rfl⟩
                    · have e2 : decide (9007199254740992 ≤ (N : Int)) = false := decide_eq_false (by omega)
                      clear hy
                      go_wp2
                      go_ret2
                      exact ⟨ret_fb K2.out.symm K1.out.symm, rfl⟩
                · have e3 : decide (-1074 < F) = true := decide_eq_true (by omega)
                  have e4 : decide (F < -1074) = false := decide_eq_false (by omega)
                  have e5 : decide (971 < F) = true := decide_eq_true hn
                  have e1 : decide ((N : Int) < 4503599627370496) = false := decide_eq_false (by omega)
                  clear hn hc
                  by_cases hy : 9007199254740992 ≤ N
                  · have e2 : decide (9007199254740992 ≤ (N : Int)) = true := decide_eq_true (by omega)
                    clear hy
                    go_wp2
                    go_ret2
                    exact ⟨ret_fb K2.out.symm K1.out.symm, rfl⟩
                  · have e2 : decide (9007199254740992 ≤ (N : Int)) = false := decide_eq_false (by omega)
                    clear hy
                    go_wp2
                    go_ret2
                    exact ⟨ret_fb K2.out.symm K1.out.symm, rfl⟩
              · have e2 : decide (9007199254740992 ≤ (N : Int)) = false := decide_eq_false (by omega)
                have e4 : decide (F < -1074) = false := decide_eq_false (by omega)
                have e5 : decide (971 < F) = false := decide_eq_false (by omega)
                by_cases hx : N < 4503599627370496
                · have e1 : decide ((N : Int) < 4503599627370496) = true := decide_eq_true (by omega)
                  have e3 : decide (-1074 < F) = false := decide_eq_false (by omega)
                  have hF : F = -1074 := by omega
                  have hI := INF_eq
                  have hr := make_yes (neg := false) (m := m) (e := e) (r := N) (by omega) (by rw [← KN.out, hF]; have := rm_seg 0 N (.inl rfl) (by omega); simp at this; rw [this])
                  have K1 := Lib.hid hr.1
                  have K2 := Lib.hid hr.2
                  have u1 : (N : Int) ≤ 4503599627370495 := by omega
                  clear hr hx hc hn hF hI
                  go_wp2
                  go_ret2
                  exact ⟨ret_fb (by rw [K2.out, word_eq]; simp; try omega) K1.out.symm, rfl⟩
                · have e1 : decide ((N : Int) < 4503599627370496) = false := decide_eq_false (by omega)
                  have hI := INF_eq
                  obtain ⟨G, hG⟩ : ∃ G : Nat, (G : Int) = F + 1074 := ⟨(F + 1074).toNat, by omega⟩
                  have hr := make_yes (neg := false) (m := m) (e := e) (r := G * 4503599627370496 + N) (by omega) (by
                    rw [← KN.out, rm_seg G N (.inr (by omega)) (by omega), Rat.natCast_mul, ← pw_nat, Rat.mul_assoc, ← pw_add, show (G : Int) + -1074 = F from by omega])
                  have K1 := Lib.hid hr.1
                  have K2 := Lib.hid hr.2
                  have u1 : (N : Int) ≤ 9007199254740991 := by omega
                  have u2 : 4503599627370496 ≤ (N : Int) := by omega
                  have u3 : -1074 ≤ F ∧ F ≤ 971 := by omega
                  have KG := Lib.hid hG
                  clear hr hx hc hn hI hG
                  go_wp2
                  go_ret2
                  exact ⟨ret_fb (by rw [K2.out, word_eq]; have := KG.out; simp; try omega) K1.out.symm, rfl⟩
    · have d1 : ((M : Int) % 2 == 0) = false := by rw [beq_eq_false_iff_ne]; omega
      have hor : M % 2 = 1 ∨ (M < 9007199254740992 ∧ -1074 ≤ E) := .inl (by omega)
      have KO := Lib.hid hor; clear hor
      have KP := Lib.hid c1; clear c1
      go_wp2
      clear d1
      go_loop [1, 2] (fun a x => ∃ (N : Nat) (F : Int), (N : Rat) * pw F = (m : Rat) * pw e ∧ N < 18446744073709551616 ∧ 0 < N ∧ F ≤ E ∧ -2000 ≤ F ∧ (N % 2 = 1 ∨ (N < 9007199254740992 ∧ -1074 ≤ F)) ∧ a = .int .u64 (N : Int) ∧ x = .int .i64 F) (fun _ x => (intOf x + 1074).toNat)
      case atStart => exact ⟨M, E, KV.out, by omega, hM0, Int.le_refl _, by omega, KO.out, rfl, rfl⟩
      case round =>
        obtain ⟨N, F, hN, hN64, hN0, hFE, hFlo, hNO, rfl, rfl⟩ := hrel
        have KN := Lib.hid hN; clear hN
        have KNO := Lib.hid hNO; clear hNO
        have j0 : 1 ≤ (N : Int) := by omega
        have j64 : (N : Int) ≤ 18446744073709551615 := by omega
        have K64 := Lib.hid hN64; clear hN64
        by_cases hc : N < 4503599627370496 ∧ -1074 < F
        · obtain ⟨hc1, hc2⟩ := hc
          have e1 : decide ((N : Int) < 4503599627370496) = true := decide_eq_true (by omega)
          have e2 : decide (-1074 < F) = true := decide_eq_true hc2
          have u1 : (N : Int) ≤ 4503599627370495 := by omega
          have KC1 := Lib.hid hc1; have KC2 := Lib.hid hc2
          clear hc1 hc2
          go_wp2
          go_round
          case rel => exact ⟨2 * N, F - 1, by rw [double_val]; exact KN.out, by have := KC1.out; omega, by omega, by omega, by have := KC2.out; omega, .inr ⟨by have := KC1.out; omega, by have := KC2.out; omega⟩, by first | go_num | (congr 1; omega), by first | rfl | go_num⟩
          case measure => have := KC2.out; simp [intOf]; omega
        · have KC := Lib.hid hc
          by_cases hn : 9007199254740992 ≤ N ∨ F < -1074 ∨ 971 < F
          · have hno := ref_no KNO.out hc hn
            rw [KN.out] at hno
            obtain ⟨q1, q2⟩ := make_no (by have := shift_le KM.out; omega) hno
            have K1 := Lib.hid q1
            have K2 := Lib.hid (q2 false)
            clear hno q1 q2
            rcases hn with hn | hn | hn
            · have e1 : decide ((N : Int) < 4503599627370496) = false := decide_eq_false (by omega)
              have e2 : decide (9007199254740992 ≤ (N : Int)) = true := decide_eq_true (by omega)
              clear hn hc
              go_wp2
              go_ret2
              exact ⟨ret_fb K2.out.symm K1.out.symm, rfl⟩
            · have e3 : decide (-1074 < F) = false := decide_eq_false (by omega)
              have e4 : decide (F < -1074) = true := decide_eq_true hn
              clear hn hc
              by_cases hx : N < 4503599627370496
              · have e1 : decide ((N : Int) < 4503599627370496) = true := decide_eq_true (by omega)
                have e2 : decide (9007199254740992 ≤ (N : Int)) = false := decide_eq_false (by omega)
                clear hx
                go_wp2
                go_ret2
                exact ⟨ret_fb K2.out.symm K1.out.symm, rfl⟩
              · have e1 : decide ((N : Int) < 4503599627370496) = false := decide_eq_false (by omega)
                clear hx
                by_cases hy : 9007199254740992 ≤ N
                · have e2 : decide (9007199254740992 ≤ (N : Int)) = true := decide_eq_true (by omega)
                  clear hy
                  go_wp2
                  go_ret2
                  exact ⟨ret_fb K2.out.symm K1.out.symm, rfl⟩
                · have e2 : decide (9007199254740992 ≤ (N : Int)) = false := decide_eq_false (by omega)
                  clear hy
                  go_wp2
                  go_ret2
                  exact ⟨ret_fb K2.out.symm K1.out.symm, rfl⟩
            · have e3 : decide (-1074 < F) = true := decide_eq_true (by omega)
              have e4 : decide (F < -1074) = false := decide_eq_false (by omega)
              have e5 : decide (971 < F) = true := decide_eq_true hn
              have e1 : decide ((N : Int) < 4503599627370496) = false := decide_eq_false (by omega)
              clear hn hc
              by_cases hy : 9007199254740992 ≤ N
              · have e2 : decide (9007199254740992 ≤ (N : Int)) = true := decide_eq_true (by omega)
                clear hy
                go_wp2
                go_ret2
                exact ⟨ret_fb K2.out.symm K1.out.symm, rfl⟩
              · have e2 : decide (9007199254740992 ≤ (N : Int)) = false := decide_eq_false (by omega)
                clear hy
                go_wp2
                go_ret2
                exact ⟨ret_fb K2.out.symm K1.out.symm, rfl⟩
          · have e2 : decide (9007199254740992 ≤ (N : Int)) = false := decide_eq_false (by omega)
            have e4 : decide (F < -1074) = false := decide_eq_false (by omega)
            have e5 : decide (971 < F) = false := decide_eq_false (by omega)
            by_cases hx : N < 4503599627370496
            · have e1 : decide ((N : Int) < 4503599627370496) = true := decide_eq_true (by omega)
              have e3 : decide (-1074 < F) = false := decide_eq_false (by omega)
              have hF : F = -1074 := by omega
              have hI := INF_eq
              have hr := make_yes (neg := false) (m := m) (e := e) (r := N) (by omega) (by rw [← KN.out, hF]; have := rm_seg 0 N (.inl rfl) (by omega); simp at this; rw [this])
              have K1 := Lib.hid hr.1
              have K2 := Lib.hid hr.2
              have u1 : (N : Int) ≤ 4503599627370495 := by omega
              clear hr hx hc hn hF hI
              go_wp2
              go_ret2
              exact ⟨ret_fb (by rw [K2.out, word_eq]; simp; try omega) K1.out.symm, rfl⟩
            · have e1 : decide ((N : Int) < 4503599627370496) = false := decide_eq_false (by omega)
              have hI := INF_eq
              obtain ⟨G, hG⟩ : ∃ G : Nat, (G : Int) = F + 1074 := ⟨(F + 1074).toNat, by omega⟩
              have hr := make_yes (neg := false) (m := m) (e := e) (r := G * 4503599627370496 + N) (by omega) (by
                rw [← KN.out, rm_seg G N (.inr (by omega)) (by omega), Rat.natCast_mul, ← pw_nat, Rat.mul_assoc, ← pw_add, show (G : Int) + -1074 = F from by omega])
              have K1 := Lib.hid hr.1
              have K2 := Lib.hid hr.2
              have u1 : (N : Int) ≤ 9007199254740991 := by omega
              have u2 : 4503599627370496 ≤ (N : Int) := by omega
              have u3 : -1074 ≤ F ∧ F ≤ 971 := by omega
              have KG := Lib.hid hG
              clear hr hx hc hn hI hG
              go_wp2
              go_ret2
              exact ⟨ret_fb (by rw [K2.out, word_eq]; have := KG.out; simp; try omega) K1.out.symm, rfl⟩

set_option maxHeartbeats 1000000 in
set_option maxRecDepth 100000 in
theorem rmake_neg (m : Nat) (e : Int) (hm : m < 18446744073709551616) (hm0 : 0 < m) (h1 : ((m : Int) == 0) = false) (h2 : ¬ e < -2000) (h3 : ¬ 2000 < e) (w : World) :
    Calls Try.prog 64 #[.bool true, .int .u64 (m : Int), .int .i64 e] w fun en w' => en = .returned (.tuple #[.float .f64 (makeF true m e), .bool (makeB m e)]) ∧ w = w' := by
  go_enter Try.func64, Try.ntmps64
  go_wp2
  go_loop [1, 2] (fun a x => ∃ M j : Nat, M * 2 ^ j = m ∧ 0 < M ∧ a = .int .u64 (M : Int) ∧ x = .int .i64 (e + (j : Int))) (fun a _ => (intOf a).toNat)
  case atStart => exact ⟨m, 0, by simp, hm0, rfl, by simp⟩
  case round =>
    obtain ⟨M, j, hM, hM0, rfl, rfl⟩ := hrel
    have hj := shift_few hM hM0 hm
    have hMm := shift_le hM
    have KV := Lib.hid (shift_val (e := e) hM)
    have KM := Lib.hid hM; clear hM
    have i0 : 1 ≤ (M : Int) := by omega
    have i64 : (M : Int) ≤ 18446744073709551615 := by omega
    have Km := Lib.hid hm; have KMm := Lib.hid hMm
    clear hm hMm hm0 h1
    obtain ⟨E, hE⟩ : ∃ E : Int, E = e + j := ⟨_, rfl⟩
    rw [← hE] at KV ⊢
    have hE1 : -2000 ≤ E ∧ E ≤ 2064 := by omega
    have KE := Lib.hid hE; clear hE h2 h3
    by_cases c1 : M % 2 = 0
    · have d1 : ((M : Int) % 2 == 0) = true := by rw [beq_iff_eq]; omega
      have KP := Lib.hid c1; clear c1
      by_cases c2 : 9007199254740992 ≤ M
      · have d2 : decide (9007199254740992 ≤ (M : Int)) = true := decide_eq_true (by omega)
        have KC := Lib.hid c2; clear c2
        go_wp2
        go_round
        case rel => exact ⟨M / 2, j + 1, shift_half KM.out KP.out, by have := KP.out; omega, by simp, by rw [KE.out]; go_num⟩
        case measure => simp [intOf]; omega
      · have d2 : decide (9007199254740992 ≤ (M : Int)) = false := decide_eq_false (by omega)
        have KC := Lib.hid c2; clear c2
        by_cases c3 : E < -1074
        · have d3 : decide (E < -1074) = true := decide_eq_true c3
          have KD := Lib.hid c3; clear c3
          go_wp2
          go_round
          case rel => exact ⟨M / 2, j + 1, shift_half KM.out KP.out, by have := KP.out; omega, by simp, by rw [KE.out]; go_num⟩
          case measure => simp [intOf]; omega
        · have d3 : decide (E < -1074) = false := decide_eq_false c3
          have hor : M % 2 = 1 ∨ (M < 9007199254740992 ∧ -1074 ≤ E) := .inr ⟨by have := KC.out; omega, by omega⟩
          have KO := Lib.hid hor; clear hor
          have KD := Lib.hid c3; clear c3
          go_wp2
          clear d1
          go_loop [1, 2] (fun a x => ∃ (N : Nat) (F : Int), (N : Rat) * pw F = (m : Rat) * pw e ∧ N < 18446744073709551616 ∧ 0 < N ∧ F ≤ E ∧ -2000 ≤ F ∧ (N % 2 = 1 ∨ (N < 9007199254740992 ∧ -1074 ≤ F)) ∧ a = .int .u64 (N : Int) ∧ x = .int .i64 F) (fun _ x => (intOf x + 1074).toNat)
          case atStart => exact ⟨M, E, KV.out, by omega, hM0, Int.le_refl _, by omega, KO.out, rfl, rfl⟩
          case round =>
            obtain ⟨N, F, hN, hN64, hN0, hFE, hFlo, hNO, rfl, rfl⟩ := hrel
            have KN := Lib.hid hN; clear hN
            have KNO := Lib.hid hNO; clear hNO
            have j0 : 1 ≤ (N : Int) := by omega
            have j64 : (N : Int) ≤ 18446744073709551615 := by omega
            have K64 := Lib.hid hN64; clear hN64
            by_cases hc : N < 4503599627370496 ∧ -1074 < F
            · obtain ⟨hc1, hc2⟩ := hc
              have e1 : decide ((N : Int) < 4503599627370496) = true := decide_eq_true (by omega)
              have e2 : decide (-1074 < F) = true := decide_eq_true hc2
              have u1 : (N : Int) ≤ 4503599627370495 := by omega
              have KC1 := Lib.hid hc1; have KC2 := Lib.hid hc2
              clear hc1 hc2
              go_wp2
              go_round
              case rel => exact ⟨2 * N, F - 1, by rw [double_val]; exact KN.out, by have := KC1.out; omega, by omega, by omega, by have := KC2.out; omega, .inr ⟨by have := KC1.out; omega, by have := KC2.out; omega⟩, by first | go_num | (congr 1; omega), by first | rfl | go_num⟩
              case measure => have := KC2.out; simp [intOf]; omega
            · have KC := Lib.hid hc
              by_cases hn : 9007199254740992 ≤ N ∨ F < -1074 ∨ 971 < F
              · have hno := ref_no KNO.out hc hn
                rw [KN.out] at hno
                obtain ⟨q1, q2⟩ := make_no (by have := shift_le KM.out; omega) hno
                have K1 := Lib.hid q1
                have K2 := Lib.hid (q2 true)
                clear hno q1 q2
                rcases hn with hn | hn | hn
                · have e1 : decide ((N : Int) < 4503599627370496) = false := decide_eq_false (by omega)
                  have e2 : decide (9007199254740992 ≤ (N : Int)) = true := decide_eq_true (by omega)
                  clear hn hc
                  go_wp2
                  go_ret2
                  exact ⟨ret_fb K2.out.symm K1.out.symm, rfl⟩
                · have e3 : decide (-1074 < F) = false := decide_eq_false (by omega)
                  have e4 : decide (F < -1074) = true := decide_eq_true hn
                  clear hn hc
                  by_cases hx : N < 4503599627370496
                  · have e1 : decide ((N : Int) < 4503599627370496) = true := decide_eq_true (by omega)
                    have e2 : decide (9007199254740992 ≤ (N : Int)) = false := decide_eq_false (by omega)
                    clear hx
                    go_wp2
                    go_ret2
                    exact ⟨ret_fb K2.out.symm K1.out.symm, rfl⟩
                  · have e1 : decide ((N : Int) < 4503599627370496) = false := decide_eq_false (by omega)
                    clear hx
                    by_cases hy : 9007199254740992 ≤ N
                    · have e2 : decide (9007199254740992 ≤ (N : Int)) = true := decide_eq_true (by omega)
                      clear hy
                      go_wp2
                      go_ret2
                      exact ⟨ret_fb K2.out.symm K1.out.symm, rfl⟩
                    · have e2 : decide (9007199254740992 ≤ (N : Int)) = false := decide_eq_false (by omega)
                      clear hy
                      go_wp2
                      go_ret2
                      exact ⟨ret_fb K2.out.symm K1.out.symm, rfl⟩
                · have e3 : decide (-1074 < F) = true := decide_eq_true (by omega)
                  have e4 : decide (F < -1074) = false := decide_eq_false (by omega)
                  have e5 : decide (971 < F) = true := decide_eq_true hn
                  have e1 : decide ((N : Int) < 4503599627370496) = false := decide_eq_false (by omega)
                  clear hn hc
                  by_cases hy : 9007199254740992 ≤ N
                  · have e2 : decide (9007199254740992 ≤ (N : Int)) = true := decide_eq_true (by omega)
                    clear hy
                    go_wp2
                    go_ret2
                    exact ⟨ret_fb K2.out.symm K1.out.symm, rfl⟩
                  · have e2 : decide (9007199254740992 ≤ (N : Int)) = false := decide_eq_false (by omega)
                    clear hy
                    go_wp2
                    go_ret2
                    exact ⟨ret_fb K2.out.symm K1.out.symm, rfl⟩
              · have e2 : decide (9007199254740992 ≤ (N : Int)) = false := decide_eq_false (by omega)
                have e4 : decide (F < -1074) = false := decide_eq_false (by omega)
                have e5 : decide (971 < F) = false := decide_eq_false (by omega)
                by_cases hx : N < 4503599627370496
                · have e1 : decide ((N : Int) < 4503599627370496) = true := decide_eq_true (by omega)
                  have e3 : decide (-1074 < F) = false := decide_eq_false (by omega)
                  have hF : F = -1074 := by omega
                  have hI := INF_eq
                  have hr := make_yes (neg := true) (m := m) (e := e) (r := N) (by omega) (by rw [← KN.out, hF]; have := rm_seg 0 N (.inl rfl) (by omega); simp at this; rw [this])
                  have K1 := Lib.hid hr.1
                  have K2 := Lib.hid hr.2
                  have u1 : (N : Int) ≤ 4503599627370495 := by omega
                  clear hr hx hc hn hF hI
                  go_wp2
                  go_ret2
                  exact ⟨ret_fb (by rw [K2.out, word_eq]; simp; try omega) K1.out.symm, rfl⟩
                · have e1 : decide ((N : Int) < 4503599627370496) = false := decide_eq_false (by omega)
                  have hI := INF_eq
                  obtain ⟨G, hG⟩ : ∃ G : Nat, (G : Int) = F + 1074 := ⟨(F + 1074).toNat, by omega⟩
                  have hr := make_yes (neg := true) (m := m) (e := e) (r := G * 4503599627370496 + N) (by omega) (by
                    rw [← KN.out, rm_seg G N (.inr (by omega)) (by omega), Rat.natCast_mul, ← pw_nat, Rat.mul_assoc, ← pw_add, show (G : Int) + -1074 = F from by omega])
                  have K1 := Lib.hid hr.1
                  have K2 := Lib.hid hr.2
                  have u1 : (N : Int) ≤ 9007199254740991 := by omega
                  have u2 : 4503599627370496 ≤ (N : Int) := by omega
                  have u3 : -1074 ≤ F ∧ F ≤ 971 := by omega
                  have KG := Lib.hid hG
                  clear hr hx hc hn hI hG
                  go_wp2
                  go_ret2
                  exact ⟨ret_fb (by rw [K2.out, word_eq]; have := KG.out; simp; try omega) K1.out.symm, rfl⟩
    · have d1 : ((M : Int) % 2 == 0) = false := by rw [beq_eq_false_iff_ne]; omega
      have hor : M % 2 = 1 ∨ (M < 9007199254740992 ∧ -1074 ≤ E) := .inl (by omega)
      have KO := Lib.hid hor; clear hor
      have KP := Lib.hid c1; clear c1
      go_wp2
      clear d1
      go_loop [1, 2] (fun a x => ∃ (N : Nat) (F : Int), (N : Rat) * pw F = (m : Rat) * pw e ∧ N < 18446744073709551616 ∧ 0 < N ∧ F ≤ E ∧ -2000 ≤ F ∧ (N % 2 = 1 ∨ (N < 9007199254740992 ∧ -1074 ≤ F)) ∧ a = .int .u64 (N : Int) ∧ x = .int .i64 F) (fun _ x => (intOf x + 1074).toNat)
      case atStart => exact ⟨M, E, KV.out, by omega, hM0, Int.le_refl _, by omega, KO.out, rfl, rfl⟩
      case round =>
        obtain ⟨N, F, hN, hN64, hN0, hFE, hFlo, hNO, rfl, rfl⟩ := hrel
        have KN := Lib.hid hN; clear hN
        have KNO := Lib.hid hNO; clear hNO
        have j0 : 1 ≤ (N : Int) := by omega
        have j64 : (N : Int) ≤ 18446744073709551615 := by omega
        have K64 := Lib.hid hN64; clear hN64
        by_cases hc : N < 4503599627370496 ∧ -1074 < F
        · obtain ⟨hc1, hc2⟩ := hc
          have e1 : decide ((N : Int) < 4503599627370496) = true := decide_eq_true (by omega)
          have e2 : decide (-1074 < F) = true := decide_eq_true hc2
          have u1 : (N : Int) ≤ 4503599627370495 := by omega
          have KC1 := Lib.hid hc1; have KC2 := Lib.hid hc2
          clear hc1 hc2
          go_wp2
          go_round
          case rel => exact ⟨2 * N, F - 1, by rw [double_val]; exact KN.out, by have := KC1.out; omega, by omega, by omega, by have := KC2.out; omega, .inr ⟨by have := KC1.out; omega, by have := KC2.out; omega⟩, by first | go_num | (congr 1; omega), by first | rfl | go_num⟩
          case measure => have := KC2.out; simp [intOf]; omega
        · have KC := Lib.hid hc
          by_cases hn : 9007199254740992 ≤ N ∨ F < -1074 ∨ 971 < F
          · have hno := ref_no KNO.out hc hn
            rw [KN.out] at hno
            obtain ⟨q1, q2⟩ := make_no (by have := shift_le KM.out; omega) hno
            have K1 := Lib.hid q1
            have K2 := Lib.hid (q2 true)
            clear hno q1 q2
            rcases hn with hn | hn | hn
            · have e1 : decide ((N : Int) < 4503599627370496) = false := decide_eq_false (by omega)
              have e2 : decide (9007199254740992 ≤ (N : Int)) = true := decide_eq_true (by omega)
              clear hn hc
              go_wp2
              go_ret2
              exact ⟨ret_fb K2.out.symm K1.out.symm, rfl⟩
            · have e3 : decide (-1074 < F) = false := decide_eq_false (by omega)
              have e4 : decide (F < -1074) = true := decide_eq_true hn
              clear hn hc
              by_cases hx : N < 4503599627370496
              · have e1 : decide ((N : Int) < 4503599627370496) = true := decide_eq_true (by omega)
                have e2 : decide (9007199254740992 ≤ (N : Int)) = false := decide_eq_false (by omega)
                clear hx
                go_wp2
                go_ret2
                exact ⟨ret_fb K2.out.symm K1.out.symm, rfl⟩
              · have e1 : decide ((N : Int) < 4503599627370496) = false := decide_eq_false (by omega)
                clear hx
                by_cases hy : 9007199254740992 ≤ N
                · have e2 : decide (9007199254740992 ≤ (N : Int)) = true := decide_eq_true (by omega)
                  clear hy
                  go_wp2
                  go_ret2
                  exact ⟨ret_fb K2.out.symm K1.out.symm, rfl⟩
                · have e2 : decide (9007199254740992 ≤ (N : Int)) = false := decide_eq_false (by omega)
                  clear hy
                  go_wp2
                  go_ret2
                  exact ⟨ret_fb K2.out.symm K1.out.symm, rfl⟩
            · have e3 : decide (-1074 < F) = true := decide_eq_true (by omega)
              have e4 : decide (F < -1074) = false := decide_eq_false (by omega)
              have e5 : decide (971 < F) = true := decide_eq_true hn
              have e1 : decide ((N : Int) < 4503599627370496) = false := decide_eq_false (by omega)
              clear hn hc
              by_cases hy : 9007199254740992 ≤ N
              · have e2 : decide (9007199254740992 ≤ (N : Int)) = true := decide_eq_true (by omega)
                clear hy
                go_wp2
                go_ret2
                exact ⟨ret_fb K2.out.symm K1.out.symm, rfl⟩
              · have e2 : decide (9007199254740992 ≤ (N : Int)) = false := decide_eq_false (by omega)
                clear hy
                go_wp2
                go_ret2
                exact ⟨ret_fb K2.out.symm K1.out.symm, rfl⟩
          · have e2 : decide (9007199254740992 ≤ (N : Int)) = false := decide_eq_false (by omega)
            have e4 : decide (F < -1074) = false := decide_eq_false (by omega)
            have e5 : decide (971 < F) = false := decide_eq_false (by omega)
            by_cases hx : N < 4503599627370496
            · have e1 : decide ((N : Int) < 4503599627370496) = true := decide_eq_true (by omega)
              have e3 : decide (-1074 < F) = false := decide_eq_false (by omega)
              have hF : F = -1074 := by omega
              have hI := INF_eq
              have hr := make_yes (neg := true) (m := m) (e := e) (r := N) (by omega) (by rw [← KN.out, hF]; have := rm_seg 0 N (.inl rfl) (by omega); simp at this; rw [this])
              have K1 := Lib.hid hr.1
              have K2 := Lib.hid hr.2
              have u1 : (N : Int) ≤ 4503599627370495 := by omega
              clear hr hx hc hn hF hI
              go_wp2
              go_ret2
              exact ⟨ret_fb (by rw [K2.out, word_eq]; simp; try omega) K1.out.symm, rfl⟩
            · have e1 : decide ((N : Int) < 4503599627370496) = false := decide_eq_false (by omega)
              have hI := INF_eq
              obtain ⟨G, hG⟩ : ∃ G : Nat, (G : Int) = F + 1074 := ⟨(F + 1074).toNat, by omega⟩
              have hr := make_yes (neg := true) (m := m) (e := e) (r := G * 4503599627370496 + N) (by omega) (by
                rw [← KN.out, rm_seg G N (.inr (by omega)) (by omega), Rat.natCast_mul, ← pw_nat, Rat.mul_assoc, ← pw_add, show (G : Int) + -1074 = F from by omega])
              have K1 := Lib.hid hr.1
              have K2 := Lib.hid hr.2
              have u1 : (N : Int) ≤ 9007199254740991 := by omega
              have u2 : 4503599627370496 ≤ (N : Int) := by omega
              have u3 : -1074 ≤ F ∧ F ≤ 971 := by omega
              have KG := Lib.hid hG
              clear hr hx hc hn hI hG
              go_wp2
              go_ret2
              exact ⟨ret_fb (by rw [K2.out, word_eq]; have := KG.out; simp; try omega) K1.out.symm, rfl⟩

end Go.Proofs.Ytkhnoffhbfcgfaa
