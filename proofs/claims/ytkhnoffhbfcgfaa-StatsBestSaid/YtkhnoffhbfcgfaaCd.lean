/- Contracts of the document's answers for layer 7: Size, At, Check. -/
import Derived.Test.YtkhnoffhbfcgfaaCc
import Derived.Test.YtkhnoffhbfcgfaaMb
import Derived.Deep.QuietTactic
import Derived.BigQuiet
namespace Go.Proofs.Ytkhnoffhbfcgfaa
open Go.RowKit Go.Shelf Lev

attribute [local go_sem] order_lt order_gt order_eq order_ne flt_or_feq flt_or_feq' p420

theorem q_of {P : Program} {f : FuncId} {args : Array Value} {w : World} {n : Nat} {v : Value} (h : Calls P f args (w.drewN n) fun e w' => e = .returned v ∧ w.drewN n = w') :
    Calls P f args (w.drewN n) fun e w'' => e = .returned v ∧ ∃ m, w'' = w.drewN m := h.mono fun _ _ ⟨he, hm⟩ => ⟨he, n, hm.symm⟩

theorem _root_.Go.RowKit.Below.drewN {B : Nat} {a w : World} (h : Below B a w) (n : Nat) : Below B a (w.drewN n) := ⟨h.os, h.tape, h.output, h.size, h.block⟩

theorem flt_small (b : Nat) : flt 6498694262295625728 (rg b) = decide (6498694262295625728 < rg b ∧ rg b ≤ INF) := by
  have h1 : ord 6498694262295625728 = 6498694262295625728 := by decide
  have h2 : rg 6498694262295625728 = 6498694262295625728 := by decide
  unfold flt
  rw [ord_rg, h1, h2, rg_rg, decide_eq_decide, INF_eq]; omega

theorem flt_small_fin {b : Nat} (hf : fin b) : flt 6498694262295625728 (rg b) = !small b := by
  rw [flt_small]; unfold small; unfold fin at hf
  rw [← decide_not, decide_eq_decide]; omega
theorem ret_t' {a b : Bool} (h : a = b) : Ending.returned (.bool a) = Ending.returned (.bool b) := by rw [h]

set_option maxHeartbeats 400000 in
theorem rsize_any (c : Int) (w : World) :
    Calls Try.prog 40 #[.int .i64 c] w fun e w' => e = .returned (.int .i64 (sizeI c)) ∧ w = w' := by
  by_cases h1 : c < 1
  · have e : sizeI c = 0 := by unfold sizeI; rw [if_pos (.inl h1)]
    rw [e]
    go_enter Try.func40, Try.ntmps40
    go_wp2
    go_ret
    exact ⟨rfl, rfl⟩
  · by_cases h2 : 6 < c
    · have e : sizeI c = 0 := by unfold sizeI; rw [if_pos (.inr h2)]
      rw [e]
      go_enter Try.func40, Try.ntmps40
      go_wp2
      go_ret
      exact ⟨rfl, rfl⟩
    · rcases (by omega : c = 1 ∨ c = 2 ∨ c = 3 ∨ c = 4 ∨ c = 5 ∨ c = 6) with h | h | h | h | h | h
      all_goals
        subst h
        clear h1 h2
        go_enter Try.func40, Try.ntmps40
        go_wp2
        go_ret
        exact ⟨rfl, rfl⟩

theorem size_ne {C : Int} (h1 : 1 ≤ C) (h6 : C ≤ 6) : sizeI C ≠ 0 := by
  rw [size_st (N := (C + 1).toNat) h1 h6 (by omega)]
  have := st_all (C + 1).toNat
  have h3 : 2 ≤ (C + 1).toNat := by omega
  have := Nat.mul_le_mul h3 h3
  omega

theorem ret_ib {i j : Int} {s t : Bool} (h : i = j) (h2 : s = t) : Ending.returned (.tuple #[.int .i64 i, .bool s]) = Ending.returned (.tuple #[.int .i64 j, .bool t]) := by rw [h, h2]

set_option maxHeartbeats 400000 in
/-- The place of an entry that there is. -/
theorem rat_yes (C i j : Int) (N : Nat) (hN : (N : Int) = C + 1) (h1 : 1 ≤ C) (h6 : C ≤ 6) (hi : 0 ≤ i) (hj : i ≤ j) (hC : j ≤ C) (w : World) :
    Calls Try.prog 43 #[.int .i64 C, .int .i64 i, .int .i64 j] w fun e w' => e = .returned (.tuple #[.int .i64 ((st N i.toNat : Int) + (j - i)), .bool true]) ∧ w = w' := by
  have d1 : (sizeI C == 0) = false := by rw [beq_eq_false_iff_ne]; exact size_ne h1 h6
  have e1 : decide (i < 0) = false := decide_eq_false (by omega)
  have e2 : decide (j < i) = false := decide_eq_false (by omega)
  have e3 : decide (C < j) = false := decide_eq_false (by omega)
  have KN := Lib.hid hN; clear hN
  go_enter Try.func43, Try.ntmps43
  go_wp2_with (go_at_call 40; refine (rsize_any _ _).mono ?_; rintro e w' ⟨rfl, rfl⟩)
  go_loop [8, 9] (fun k r => ∃ m s : Nat, s = st N m ∧ (m : Int) ≤ i ∧ s ≤ 49 ∧ r = .int .i64 (m : Int) ∧ k = .int .i64 (s : Int)) (fun _ r => (i - intOf r).toNat)
  case atStart => exact ⟨0, 0, rfl, hi, by decide, rfl, rfl⟩
  case round =>
    obtain ⟨m, s, hs, hm, hs49, rfl, rfl⟩ := hrel
    have KS := Lib.hid hs; clear hs
    by_cases hlt : (m : Int) < i
    · go_wp2
      go_round
      case rel =>
        have := KN.out; have h2 := st_succ N m
        have h3 := st_le (N := N) (k := m + 1) (m := N) (by omega)
        have h4 := st_all N
        have h5 : N ≤ 7 := by omega
        have h6 := Nat.mul_le_mul h5 h5
        exact ⟨m + 1, s + (N - m), by rw [KS.out, h2], by omega, by rw [KS.out, ← h2]; omega, by go_num, by congr 1; omega⟩
      case measure => simp [intOf]; omega
    · obtain rfl : i = (m : Int) := by omega
      go_wp2
      go_ret2
      exact ⟨ret_ib (by rw [← KS.out]; omega) rfl, rfl⟩

theorem rat_diag (C : Int) (q N : Nat) (hN : (N : Int) = C + 1) (h1 : 1 ≤ C) (h6 : C ≤ 6) (hq : (q : Int) ≤ C) (w : World) :
    Calls Try.prog 43 #[.int .i64 C, .int .i64 (q : Int), .int .i64 (q : Int)] w fun e w' => e = .returned (.tuple #[.int .i64 ((st N q : Nat) : Int), .bool true]) ∧ w = w' := by
  refine (rat_yes C q q N hN h1 h6 (by omega) (by omega) hq w).mono ?_
  rintro e w' ⟨rfl, rfl⟩
  exact ⟨ret_ib (by rw [Int.toNat_natCast]; omega) rfl, rfl⟩

set_option maxHeartbeats 400000 in
/-- The place of an entry that there is not. -/
theorem rat_no (C i j : Int) (h : sizeI C = 0 ∨ i < 0 ∨ j < i ∨ C < j) (w : World) :
    Calls Try.prog 43 #[.int .i64 C, .int .i64 i, .int .i64 j] w fun e w' => e = .returned (.tuple #[.int .i64 0, .bool false]) ∧ w = w' := by
  by_cases h1 : sizeI C = 0
  · have d1 : (sizeI C == 0) = true := by rw [beq_iff_eq]; exact h1
    clear h h1
    go_enter Try.func43, Try.ntmps43
    go_wp2_with (go_at_call 40; refine (rsize_any _ _).mono ?_; rintro e w' ⟨rfl, rfl⟩)
    go_ret2
    exact ⟨rfl, rfl⟩
  · have d1 : (sizeI C == 0) = false := by rw [beq_eq_false_iff_ne]; exact h1
    rcases (by omega : i < 0 ∨ (¬ i < 0 ∧ j < i) ∨ (¬ i < 0 ∧ ¬ j < i ∧ C < j)) with e1 | ⟨e1, e2⟩ | ⟨e1, e2, e3⟩
    all_goals
      clear h h1
      go_enter Try.func43, Try.ntmps43
      go_wp2_with (go_at_call 40; refine (rsize_any _ _).mono ?_; rintro e w' ⟨rfl, rfl⟩)
      go_ret2
      exact ⟨rfl, rfl⟩

theorem kindS_gt (b : Nat) : decide (1 < kindS b) = !decide (fin b) := by
  rw [← decide_not, decide_eq_decide]
  have := kindS_le (b := b)
  rw [← this]; omega
theorem nS_fin {b : Nat} (h : fin b) : nS b = sg b := by
  have := kindS_le.2 h
  unfold nS; rw [decide_eq_true (by omega), Bool.true_and]

set_option maxRecDepth 100000 in
set_option maxHeartbeats 2000000 in
theorem rcheck_rows (C : Int) (N : Nat) (hN : (N : Int) = C + 1) (b off : Nat) (xs : List Nat) (c : Nat) (R T : Int) (w : World) (hb : b < w.heap.size) (hlt : ∀ x ∈ xs, x < 18446744073709551616)
    (hcell : ∀ j, j < xs.length → w.cell? ⟨b, off + j, none⟩ = some (.float .f64 (xs[j]?.getD 0))) (h1 : 1 ≤ C) (h6 : C ≤ 6) (hsz : (xs.length : Int) = sizeI C)
    (hR0 : 0 ≤ R) (hR1 : R ≤ 200) (hT0 : 0 ≤ T) (hT1 : T ≤ 4096) :
    Calls Try.prog 18 #[facV C (some ⟨b, off, none⟩) xs.length c R T] w fun e w' => e = .returned (.bool (rowsOk N xs)) ∧ Below w.heap.size w w' := by
  have hlen : st N N = xs.length := by have := size_st h1 h6 hN; omega
  have d1 : (sizeI C == 0) = false := by rw [beq_eq_false_iff_ne]; exact size_ne h1 h6
  have d2 : ((xs.length : Int) != sizeI C) = false := by rw [bne_eq_false_iff_eq]; exact hsz
  have e1 : decide (R < 0) = false := decide_eq_false (by omega)
  have e2 : decide (200 < R) = false := decide_eq_false (by omega)
  have e3 : decide (T < 0) = false := decide_eq_false (by omega)
  have e4 : decide (4096 < T) = false := decide_eq_false (by omega)
  have hs : xs.length ≤ 28 := by
    have := st_all N
    have h3 : N ≤ 7 := by omega
    have := Nat.mul_le_mul h3 h3
    omega
  have HSZ := Lib.hid hsz; have HL := Lib.hid hlen; have HN := Lib.hid hN; have HC := Lib.hid hcell; have HLT := Lib.hid hlt
  clear hsz hlen hcell hlt hN
  unfold facV
  go_enter Try.func18, Try.ntmps18
  go_wp2_with (go_at_call 40; refine (rsize_any _ _).mono ?_; rintro e w' ⟨rfl, rfl⟩)
  obtain ⟨W, hW⟩ : ∃ W, W = w.alloc (.cells #[.int .i64 C, .slice (some ⟨b, off, none⟩) xs.length c, .int .i64 R, .int .i64 T] 24) := ⟨_, rfl⟩
  have c0 : W.cell? ⟨w.heap.size, 0, none⟩ = some (.int .i64 C) := by rw [hW]; simp [go_sem]
  have c1 : W.cell? ⟨w.heap.size, 1, none⟩ = some (.slice (some ⟨b, off, none⟩) xs.length c) := by rw [hW]; simp [go_sem]
  have c2 : W.cell? ⟨w.heap.size, 2, none⟩ = some (.int .i64 R) := by rw [hW]; simp [go_sem]
  have c3 : W.cell? ⟨w.heap.size, 3, none⟩ = some (.int .i64 T) := by rw [hW]; simp [go_sem]
  rw [← hW]
  have KW := Lib.hid hW; clear hW
  go_quiet (first | (go_at_call 40; exact q_of (rsize_any _ _)))
  go_wp2
  go_loopw [3] (fun i wr => ∃ j n : Nat, i = .int .i64 (j : Int) ∧ j ≤ xs.length ∧ wr = W.drewN n ∧ ∀ q, q < j → small (xs[q]?.getD 0) = true) (fun i _ => xs.length - (intOf i).toNat)
  case atStart => exact ⟨0, nq, rfl, Nat.zero_le _, rfl, by intro q h; omega⟩
  case round =>
    obtain ⟨j, n, rfl, hj, rfl, hsm⟩ := hrel
    have HS := Lib.hid hsm; clear hsm
    by_cases hlt : (j : Int) < (xs.length : Int)
    · have hcj : (W.drewN n).cell? ⟨b, off + j, none⟩ = some (.float .f64 (xs[j]?.getD 0)) := by rw [World.cell?_drewN, KW.out]; simp [go_sem, hb]; exact HC.out j (by omega)
      have hv : xs[j]?.getD 0 < 18446744073709551616 := by
        rw [List.getElem?_eq_getElem (by omega)]; exact HLT.out _ (List.getElem_mem _)
      generalize hx : xs[j]?.getD 0 = x at *
      have HX := Lib.hid hx; have HV := Lib.hid hv
      clear hx hv
      have hbad : small x = false → rowsOk N xs = false := by
        intro h
        rw [Bool.eq_false_iff]
        intro hr
        have := ((rowsOk_iff HL.out.symm).1 hr).1 j (by omega)
        rw [HX.out, h] at this
        exact Bool.false_ne_true this
      have HB := Lib.hid hbad; clear hbad
      by_cases hf : fin x
      · have k1 : decide (1 < kindS x) = false := by rw [kindS_gt, decide_eq_true hf]; rfl
        cases hs : small x
        · have k2 : flt 6498694262295625728 (rg x) = true := by rw [flt_small_fin hf, hs]; rfl
          clear hf
          have HSx := Lib.hid hs; clear hs
          go_wp2_with (first
            | (go_at_call 36; refine (rsplit_any _ HV.out _).mono ?_; rintro e w' ⟨rfl, rfl⟩; unfold splitV)
            | (go_at_call 41; refine (abs_any _ HV.out _).mono ?_; rintro e w' ⟨rfl, rfl⟩)
            | (go_at_call 42; refine (rpow_any _ _).mono ?_; rintro e w' ⟨rfl, rfl⟩))
          go_ret
          exact ⟨ret_t' (HB.out HSx.out).symm, by rw [KW.out]; exact ((Below.refl _ w).alloc (Nat.le_refl _) _).drewN n⟩
        · have k2 : flt 6498694262295625728 (rg x) = false := by rw [flt_small_fin hf, hs]; rfl
          clear hf
          have HSx := Lib.hid hs; clear hs
          go_wp2_with (first
            | (go_at_call 36; refine (rsplit_any _ HV.out _).mono ?_; rintro e w' ⟨rfl, rfl⟩; unfold splitV)
            | (go_at_call 41; refine (abs_any _ HV.out _).mono ?_; rintro e w' ⟨rfl, rfl⟩)
            | (go_at_call 42; refine (rpow_any _ _).mono ?_; rintro e w' ⟨rfl, rfl⟩))
          go_roundw
          case rel =>
            refine ⟨j + 1, n, by go_num, by omega, rfl, ?_⟩
            intro q hq
            by_cases hqj : q < j
            · exact HS.out q hqj
            · obtain rfl : q = j := by omega
              rw [HX.out]; exact HSx.out
          case measure => simp [intOf]; omega
      · have k1 : decide (1 < kindS x) = true := by rw [kindS_gt, decide_eq_false hf]; rfl
        have hs : small x = false := by rw [Bool.eq_false_iff]; exact fun h => hf (small_fin h)
        clear hf
        have HSx := Lib.hid hs; clear hs
        go_wp2_with (go_at_call 36; refine (rsplit_any _ HV.out _).mono ?_; rintro e w' ⟨rfl, rfl⟩; unfold splitV)
        go_ret
        exact ⟨ret_t' (HB.out HSx.out).symm, by rw [KW.out]; exact ((Below.refl _ w).alloc (Nat.le_refl _) _).drewN n⟩
    · obtain rfl : j = xs.length := by omega
      clear hlt hj
      have HS1 := Lib.hid HS.out; clear HS
      go_wp2
      go_loopw [8] (fun i wr => ∃ q n : Nat, i = .int .i64 (q : Int) ∧ q ≤ N ∧ wr = W.drewN n ∧ ∀ k, k < q → sg (xs[st N k]?.getD 0) = false) (fun i _ => N - (intOf i).toNat)
      case atStart => exact ⟨0, n, rfl, Nat.zero_le _, rfl, by intro q h; omega⟩
      case round =>
        obtain ⟨q, n, rfl, hq, rfl, hsg⟩ := hrel
        have HG := Lib.hid hsg; clear hsg
        by_cases hlt : (q : Int) ≤ C
        · have hqN : q < N := by have := HN.out; omega
          have hst : st N q < xs.length := by
            have h1 := st_succ N q
            have h2 := st_le (N := N) (k := q + 1) (m := N) (by omega)
            have := HL.out; omega
          have hcj : (W.drewN n).cell? ⟨b, off + st N q, none⟩ = some (.float .f64 (xs[st N q]?.getD 0)) := by rw [World.cell?_drewN, KW.out]; simp [go_sem, hb]; exact HC.out (st N q) hst
          have hv : xs[st N q]?.getD 0 < 18446744073709551616 := by
            rw [List.getElem?_eq_getElem hst]; exact HLT.out _ (List.getElem_mem _)
          have hsm : small (xs[st N q]?.getD 0) = true := HS1.out _ hst
          have hn : nS (xs[st N q]?.getD 0) = sg (xs[st N q]?.getD 0) := nS_fin (small_fin hsm)
          have hat := fun w => rat_diag C q N HN.out h1 h6 hlt w
          have HAT := Lib.hid hat; clear hat
          generalize hx : xs[st N q]?.getD 0 = x at *
          generalize hp : st N q = p at *
          have HX := Lib.hid hx; have HV := Lib.hid hv; have HPP := Lib.hid hp; have HQN := Lib.hid hqN
          clear hx hv hsm hp hqN
          cases hs : sg x
          · rw [hs] at hn
            go_wp2_with (first
              | (go_at_call 43; refine (HAT.out _).mono ?_; rintro e w' ⟨rfl, rfl⟩)
              | (go_at_call 36; refine (rsplit_any _ HV.out _).mono ?_; rintro e w' ⟨rfl, rfl⟩; unfold splitV; rw [hn]))
            go_roundw
            case rel =>
              have := HQN.out
              refine ⟨q + 1, n, by go_num, by omega, rfl, ?_⟩
              intro k hk
              by_cases hkj : k < q
              · exact HG.out k hkj
              · obtain rfl : k = q := by omega
                rw [HPP.out, HX.out]; exact hs
            case measure => have := HN.out; simp [intOf]; omega
          · rw [hs] at hn
            have hbad : rowsOk N xs = false := by
              rw [Bool.eq_false_iff]
              intro hr
              have h3 := ((rowsOk_iff HL.out.symm).1 hr).2 q HQN.out
              rw [HPP.out, HX.out, hs] at h3
              exact Bool.false_ne_true h3.symm
            have HB := Lib.hid hbad; clear hbad
            go_wp2_with (first
              | (go_at_call 43; refine (HAT.out _).mono ?_; rintro e w' ⟨rfl, rfl⟩)
              | (go_at_call 36; refine (rsplit_any _ HV.out _).mono ?_; rintro e w' ⟨rfl, rfl⟩; unfold splitV; rw [hn]))
            go_ret
            exact ⟨ret_t' HB.out.symm, by rw [KW.out]; exact ((Below.refl _ w).alloc (Nat.le_refl _) _).drewN n⟩
        · have hall : rowsOk N xs = true := (rowsOk_iff HL.out.symm).2 ⟨HS1.out, fun i hi => HG.out i (by have := HN.out; omega)⟩
          have HB := Lib.hid hall; clear hall
          go_wp2
          go_ret
          exact ⟨ret_t' HB.out.symm, by rw [KW.out]; exact ((Below.refl _ w).alloc (Nat.le_refl _) _).drewN n⟩

set_option maxRecDepth 100000 in
set_option maxHeartbeats 1000000 in
theorem rcheck_bad (C : Int) (A : Option Addr) (n c : Nat) (R T : Int) (w : World) (h : headOk C n R T = false) (hn63 : n ≤ 9223372036854775807) :
    Calls Try.prog 18 #[facV C A n c R T] w fun e w' => e = .returned (.bool false) ∧ Below w.heap.size w w' := by
  have hs : (sizeI C = 0) ∨ (1 ≤ C ∧ C ≤ 6 ∧ sizeI C ≠ 0) := by
    by_cases h1 : 1 ≤ C ∧ C ≤ 6
    · exact .inr ⟨h1.1, h1.2, size_ne h1.1 h1.2⟩
    · left; unfold sizeI; rw [if_pos (by omega)]
  unfold headOk at h
  rw [decide_eq_false_iff_not] at h
  have hcases : (sizeI C == 0) = true ∨ ((sizeI C == 0) = false ∧ ((n : Int) != sizeI C) = true) ∨ ((sizeI C == 0) = false ∧ ((n : Int) != sizeI C) = false ∧ decide (R < 0) = true) ∨
      ((sizeI C == 0) = false ∧ ((n : Int) != sizeI C) = false ∧ decide (R < 0) = false ∧ decide (200 < R) = true) ∨
      ((sizeI C == 0) = false ∧ ((n : Int) != sizeI C) = false ∧ decide (R < 0) = false ∧ decide (200 < R) = false ∧ decide (T < 0) = true) ∨
      ((sizeI C == 0) = false ∧ ((n : Int) != sizeI C) = false ∧ decide (R < 0) = false ∧ decide (200 < R) = false ∧ decide (T < 0) = false ∧ decide (4096 < T) = true) := by
    simp only [beq_iff_eq, beq_eq_false_iff_ne, bne_iff_ne, bne_eq_false_iff_eq, decide_eq_true_eq, decide_eq_false_iff_not]
    omega
  clear h hs
  unfold facV
  rcases hcases with d1 | ⟨d1, d2⟩ | ⟨d1, d2, d3⟩ | ⟨d1, d2, d3, d4⟩ | ⟨d1, d2, d3, d4, d5⟩ | ⟨d1, d2, d3, d4, d5, d6⟩
  all_goals
    go_enter Try.func18, Try.ntmps18
    go_wp2_with (go_at_call 40; refine (rsize_any _ _).mono ?_; rintro e w' ⟨rfl, rfl⟩)
    obtain ⟨W, hW⟩ : ∃ W, W = w.alloc (.cells #[.int .i64 C, .slice A n c, .int .i64 R, .int .i64 T] 24) := ⟨_, rfl⟩
    have c0 : W.cell? ⟨w.heap.size, 0, none⟩ = some (.int .i64 C) := by rw [hW]; simp [go_sem]
    have c1 : W.cell? ⟨w.heap.size, 1, none⟩ = some (.slice A n c) := by rw [hW]; simp [go_sem]
    have c2 : W.cell? ⟨w.heap.size, 2, none⟩ = some (.int .i64 R) := by rw [hW]; simp [go_sem]
    have c3 : W.cell? ⟨w.heap.size, 3, none⟩ = some (.int .i64 T) := by rw [hW]; simp [go_sem]
    rw [← hW]
    have KW := Lib.hid hW; clear hW
    go_quiet (first | (go_at_call 40; exact q_of (rsize_any _ _)))
    go_wp2
    go_ret
    exact ⟨rfl, by rw [KW.out]; exact ((Below.refl _ w).alloc (Nat.le_refl _) _).drewN nq⟩

/-- The document's answer: whether a factor may be. -/
theorem rcheck_any (C : Int) (A : Option Addr) (xs : List Nat) (c : Nat) (R T : Int) (w : World) (hx : SlArg w A xs c) :
    Calls Try.prog 18 #[facV C A xs.length c R T] w fun e w' => e = .returned (.bool (checkS C xs R T)) ∧ Below w.heap.size w w' := by
  unfold checkS
  cases h : headOk C xs.length R T
  · rw [Bool.false_and]
    exact rcheck_bad C A xs.length c R T w h (Nat.le_trans hx.cap hx.room)
  · rw [Bool.true_and]
    have h' := h
    unfold headOk at h'
    rw [decide_eq_true_eq] at h'
    obtain ⟨h1, h6, hsz, hR0, hR1, hT0, hT1⟩ := h'
    obtain ⟨N, hN⟩ : ∃ N : Nat, (N : Int) = C + 1 := ⟨(C + 1).toNat, by omega⟩
    have hNe : (C + 1).toNat = N := by omega
    have hpos : 0 < xs.length := by
      have := size_st h1 h6 hN
      have := st_all N
      have h3 : 2 ≤ N := by omega
      have := Nat.mul_le_mul h3 h3
      omega
    obtain ⟨b, off, rfl, hb, hc⟩ := hx.reads.2 hpos
    rw [hNe]
    exact rcheck_rows C N hN b off xs c R T w hb hx.reads.1 hc h1 h6 hsz hR0 hR1 hT0 hT1

end Go.Proofs.Ytkhnoffhbfcgfaa
