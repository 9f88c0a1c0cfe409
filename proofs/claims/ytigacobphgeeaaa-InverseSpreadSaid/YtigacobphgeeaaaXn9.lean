/- The size of a row of the inverse: package inverse's, the document's. -/
import Derived.Test.YtigacobphgeeaaaXl9
import Derived.Test.YtigacobphgeeaaaXm9
import Derived.Test.YtigacobphgeeaaaZ9
import Derived.Test.YtigacobphgeeaaaVi9
import Derived.Test.YtigacobphgeeaaaG9
import Derived.Deep.QuietTactic
import Derived.BigQuiet
set_option linter.unusedVariables false
namespace Go.Proofs.Ytigacobphgeeaaa
open Go.RowKit Go.Shelf Lev

attribute [local go_sem] run_store_float order_lt order_gt order_eq order_ne

attribute [local go_sem high] run_maxY run_minY

set_option maxRecDepth 100000 in
set_option maxHeartbeats 4000000 in
theorem size_any' (g : Nat → Nat → Nat) (n i : Nat) (hi : i < n) (hn : n ≤ 6) (B c : Nat) (b o k : Nat → Nat) (M : Nat → Nat → Nat) (w : World) (hm : RMat w B n b o k M) (hg : ∀ j, i ≤ j → j < n → M i j = g i j) (hf : ∀ j, i ≤ j → j < n → rg (g i j) < INF) :
    Calls Try.prog 46 #[.slice (some ⟨B, 0, none⟩) n c, .int .i64 (i : Int)] w fun e w' => e = .returned (.float .f64 (sizeS (fun s => g i (i + s)) (n - i))) ∧ w = w' := by
  obtain ⟨m, hmm⟩ : ∃ m, n - i = m := ⟨_, rfl⟩
  obtain ⟨x, hx⟩ : ∃ x : Nat → Nat, x = fun s => g i (i + s) := ⟨_, rfl⟩
  rw [hmm, ← hx]
  have hfin : ∀ s, s < m → fin (x s) := fun s hs => by rw [hx]; unfold fin; exact hf (i + s) (by omega) (by omega)
  have hcell : ∀ s, s < m → w.cell? ⟨b i, o i + i + s, none⟩ = some (.float .f64 (x s)) := fun s hs => by
    have h1 := hm.row i (i + s) hi (by omega)
    rw [hg (i + s) (by omega) (by omega)] at h1
    rw [hx, Nat.add_assoc]; exact h1
  have hx64 : ∀ s, s < m → x s < 18446744073709551616 := fun s hs => by
    have h1 := hm.l64 i (i + s)
    rw [hg (i + s) (by omega) (by omega)] at h1
    rw [hx]; exact h1
  obtain ⟨f1, f2, f3, f4, f5, f6, _⟩ := size_facts (x := x) (m := m) (by omega) hfin
  have a0 := hm.out i hi
  obtain ⟨hk1, hk2⟩ := hm.cap i hi
  have hmi : m ≤ 6 := by omega
  have HCELL := Lib.hid hcell; have HX64 := Lib.hid hx64; have HF2 := Lib.hid f2; have HF3 := Lib.hid f3
  have HSQ := Lib.hid (fun W => sqrt_any (sumT (qS x (kS x m)) m) _ f4 W)
  have hr5 := fun w => run_float_arith (P := Try.prog) w .mul 29 .f64 _ _ _ (show floatBits .mul .f64 _ _ = some _ from f5)
  have HPW := Lib.hid (fun k W => pow_any k W)
  have HTP := Lib.hid (fun s (hs : s < m) W => top_any (x s) (hx64 s hs) W)
  have hkd : min (kL x m) 1000 = kS x m := rfl
  have hin : (i : Int) < (n : Int) := by omega
  have hile : (i : Int) ≤ (n : Int) := by omega
  have hkb : ∀ q, q ≤ m → -2000 ≤ kL x q ∧ kL x q ≤ 1023 := fun q hq => by
    have h1 := (kL_ge x q).1
    have h2 := kL_le x q (fun i hi => hfin i (by omega))
    omega
  have HKB := Lib.hid hkb
  obtain ⟨f1a, f1b⟩ := f1
  have HR5 := Lib.hid hr5
  have HMM := Lib.hid hmm
  have hki : ¬ k i = i := by omega
  clear hm hg hf hfin hcell hx64 f2 f3 f4 f5 f6 hx hr5 hkb
  go_enter Try.func46, Try.ntmps46
  go_wp2_with fail
  go_loopw [5, 20] (fun kv iv wr => ∃ q : Nat, q ≤ m ∧ iv = .int .i64 (q : Int) ∧ kv = .int .i64 (kL x q) ∧ wr = w) (fun _ iv _ => m - (intOf iv).toNat)
  case atStart => exact ⟨0, Nat.zero_le _, rfl, rfl, rfl⟩
  case round =>
    obtain ⟨q, hq, rfl, rfl, rfl⟩ := hrel
    by_cases hlt : (q : Int) < (m : Int)
    · have hqm : q < m := by omega
      have e1 := HCELL.out q hqm
      have hmx : max (kL x q) (topB (x q)) = kL x (q + 1) := rfl
      have HT := Lib.hid (HTP.out q hqm)
      have hb1 := HKB.out q (by omega)
      obtain ⟨hb1a, hb1b⟩ := hb1
      generalize topB (x q) = tb at *
      generalize hk9 : kL x (q + 1) = k1 at *
      have HK9 := Lib.hid hk9
      clear hk9
      generalize kL x q = k0 at *
      go_wp2_with (go_at_call 76; refine (HT.out _).mono ?_; rintro e w' ⟨rfl, rfl⟩)
      go_roundw
      case rel => exact ⟨q + 1, by omega, by go_num, by rw [HK9.out], trivial⟩
      case measure => simp [intOf]; omega
    · have hqe : q = m := by omega
      rw [hqe]
      have hb1 := HKB.out m (Nat.le_refl _)
      obtain ⟨hb1a, hb1b⟩ := hb1
      have hmn2 : min (kL x m) (1000 : Int) = kS x m := rfl
      generalize kS x m = K at *
      generalize kL x m = k0 at *
      clear hqe hkd
      go_wp2_with fail
      go_loopw [8, 38] (fun sv iv wq => ∃ q : Nat, q ≤ m ∧ iv = .int .i64 (q : Int) ∧ sv = .float .f64 (sumT (qS x K) q) ∧ wq = wr) (fun _ iv _ => m - (intOf iv).toNat)
      case atStart => exact ⟨0, Nat.zero_le _, rfl, rfl, rfl⟩
      case round =>
        obtain ⟨q, hq, rfl, rfl, rfl⟩ := hrel
        by_cases hlt : (q : Int) < (m : Int)
        · have hqm : q < m := by omega
          have e1 := HCELL.out q hqm
          obtain ⟨g1, g2⟩ := HF2.out q hqm
          have g3 := HF3.out q hqm
          have hr1 := fun w => run_float_arith (P := Try.prog) w .mul 29 .f64 _ _ _ (show floatBits .mul .f64 _ _ = some _ from g1)
          have hr2 := fun w => run_float_arith (P := Try.prog) w .mul 29 .f64 _ _ _ (show floatBits .mul .f64 _ _ = some _ from g2)
          have hr3 := fun w => run_float_arith (P := Try.prog) w .add 29 .f64 _ _ _ (show floatBits .add .f64 _ _ = some _ from g3)
          generalize hs1 : sumT (qS x K) (q + 1) = s1 at *
          have HS1 := Lib.hid hs1
          clear hs1 g1 g2 g3
          generalize sumT (qS x K) q = s0 at *
          have HP := Lib.hid (HPW.out (-K))
          generalize makeF false 1 (-K) = pk at *
          generalize qS x K q = qq at *
          generalize yS x K q = yy at *
          go_wp2_with (go_at_call 77; refine (HP.out _).mono ?_; rintro e w' ⟨rfl, rfl⟩)
          go_roundw
          case rel => exact ⟨q + 1, by omega, by go_num, by rw [HS1.out], trivial⟩
          case measure => simp [intOf]; omega
        · have hqe : q = m := by omega
          rw [hqe]
          have HP := Lib.hid (HPW.out K)
          have hr5 := HR5.out
          generalize sqrtF (sumT (qS x K) m) = sq at *
          generalize sumT (qS x K) m = s0 at *
          generalize makeF false 1 K = pk at *
          clear hqe
          go_wp2_with (first
            | (go_at_call 77; refine (HP.out _).mono ?_; rintro e w' ⟨rfl, rfl⟩)
            | (go_at_call 48; refine (HSQ.out _).mono ?_; rintro e w' ⟨rfl, rfl⟩))
          go_ret
          exact ⟨rfl, rfl⟩

set_option maxRecDepth 100000 in
set_option maxHeartbeats 4000000 in
theorem size18_any (l : List Nat) (A : Option Addr) (c : Nat) (m : Nat) (hm : l.length = m) (hm1 : 1 ≤ m) (hm6 : m ≤ 6) (w : World) (hl : SlArg w A l c) (x : Nat → Nat) (hx : ∀ s, s < m → l[s]?.getD 0 = x s) (hf : ∀ s, s < m → rg (x s) < INF) :
    Calls Try.prog 49 #[.slice A m c] w fun e w' => e = .returned (.float .f64 (sizeS x m)) ∧ ∃ t, w' = w.drewN t := by
  have hfin : ∀ s, s < m → fin (x s) := fun s hs => by unfold fin; exact hf s hs
  obtain ⟨b, o, rfl, _, hc⟩ := hl.reads.2 (by omega)
  have hcell : ∀ s, s < m → w.cell? ⟨b, o + s, none⟩ = some (.float .f64 (x s)) := fun s hs => by
    rw [hc s (by omega), hx s hs]
  have hx64 : ∀ s, s < m → x s < 18446744073709551616 := fun s hs => by
    rw [← hx s hs]; exact hl.reads.lt s
  obtain ⟨f1, f2, f3, f4, f5, f6, _⟩ := size_facts (x := x) (m := m) hm6 hfin
  have HCELL := Lib.hid hcell; have HX64 := Lib.hid hx64; have HF2 := Lib.hid f2; have HF3 := Lib.hid f3
  have HSQ := Lib.hid (fun W => sqrt_any (sumT (qS x (kS x m)) m) _ f4 W)
  have hr5 := fun w => run_float_arith (P := Try.prog) w .mul 29 .f64 _ _ _ (show floatBits .mul .f64 _ _ = some _ from f5)
  have HPW := Lib.hid (fun k W => rpow_any k W)
  have HTP := Lib.hid (fun s (hs : s < m) W => rtop_any (x s) (hx64 s hs) W)
  have hkb : ∀ q, q ≤ m → -2000 ≤ kL x q ∧ kL x q ≤ 1023 := fun q hq => by
    have h1 := (kL_ge x q).1
    have h2 := kL_le x q (fun i hi => hfin i (by omega))
    omega
  have HKB := Lib.hid hkb
  obtain ⟨f1a, f1b⟩ := f1
  have HR5 := Lib.hid hr5
  clear hl hf hfin hcell hx64 f2 f3 f4 f5 f6 hx hr5 hkb hm hc
  go_enter Try.func49, Try.ntmps49
  go_wp2_with fail
  go_loopw [3, 4] (fun kv iv wr => ∃ q : Nat, q ≤ m ∧ iv = .int .i64 (q : Int) ∧ kv = .int .i64 (kL x q) ∧ wr = w) (fun _ iv _ => m - (intOf iv).toNat)
  case atStart => exact ⟨0, Nat.zero_le _, rfl, rfl, rfl⟩
  case round =>
    obtain ⟨q, hq, rfl, rfl, rfl⟩ := hrel
    by_cases hlt : (q : Int) < (m : Int)
    · have hqm : q < m := by omega
      have e1 := HCELL.out q hqm
      have hmx : max (kL x q) (topB (x q)) = kL x (q + 1) := rfl
      have HT := Lib.hid (HTP.out q hqm)
      have hb1 := HKB.out q (by omega)
      obtain ⟨hb1a, hb1b⟩ := hb1
      generalize topB (x q) = tb at *
      generalize hk9 : kL x (q + 1) = k1 at *
      have HK9 := Lib.hid hk9
      clear hk9
      generalize kL x q = k0 at *
      go_wp2_with (go_at_call 80; refine (HT.out _).mono ?_; rintro e w' ⟨rfl, rfl⟩)
      go_roundw
      case rel => exact ⟨q + 1, by omega, by go_num, by rw [HK9.out], trivial⟩
      case measure => simp [intOf]; omega
    · have hqe : q = m := by omega
      rw [hqe]
      have hb1 := HKB.out m (Nat.le_refl _)
      obtain ⟨hb1a, hb1b⟩ := hb1
      have hmn2 : min (kL x m) (1000 : Int) = kS x m := rfl
      generalize kS x m = K at *
      generalize kL x m = k0 at *
      clear hqe
      go_wp2_with fail
      go_loopw [5, 6] (fun sv iv wq => ∃ q : Nat, q ≤ m ∧ iv = .int .i64 (q : Int) ∧ sv = .float .f64 (sumT (qS x K) q) ∧ ∃ t, wq = wr.drewN t) (fun _ iv _ => m - (intOf iv).toNat)
      case atStart => exact ⟨0, Nat.zero_le _, rfl, rfl, 0, rfl⟩
      case round =>
        obtain ⟨q, hq, rfl, rfl, t, rfl⟩ := hrel
        by_cases hlt : (q : Int) < (m : Int)
        · have hqm : q < m := by omega
          have e1 : (wr.drewN t).cell? ⟨b, o + q, none⟩ = some (.float .f64 (x q)) := HCELL.out q hqm
          obtain ⟨g1, g2⟩ := HF2.out q hqm
          have g3 := HF3.out q hqm
          have hr1 := fun w => run_float_arith (P := Try.prog) w .mul 29 .f64 _ _ _ (show floatBits .mul .f64 _ _ = some _ from g1)
          have hr2 := fun w => run_float_arith (P := Try.prog) w .mul 29 .f64 _ _ _ (show floatBits .mul .f64 _ _ = some _ from g2)
          have hr3 := fun w => run_float_arith (P := Try.prog) w .add 29 .f64 _ _ _ (show floatBits .add .f64 _ _ = some _ from g3)
          generalize hs1 : sumT (qS x K) (q + 1) = s1 at *
          have HS1 := Lib.hid hs1
          clear hs1 g1 g2 g3
          generalize sumT (qS x K) q = s0 at *
          have HP := Lib.hid (HPW.out (-K))
          have HPX := Lib.hid (HPW.out (IntKind.i64.wrap (-K)))
          generalize makeF false 1 (-K) = pk at *
          generalize qS x K q = qq at *
          generalize yS x K q = yy at *
          obtain ⟨W, hW⟩ : ∃ W, W = wr.drewN t := ⟨_, rfl⟩
          rw [← hW] at e1 ⊢
          have HW := Lib.hid hW
          clear hW
          go_wp2_with fail
          go_quiet (first | (go_at_call 63; exact q_of (HP.out _)) | (go_at_call 63; exact q_of (HPX.out _)))
          go_wp2
          go_roundw
          case rel => exact ⟨q + 1, by omega, by go_num, by rw [HS1.out], t + nq, by rw [HW.out, World.drewN_drewN]⟩
          case measure => simp [intOf]; omega
        · have hqe : q = m := by omega
          rw [hqe]
          have HP := Lib.hid (HPW.out K)
          have hr5 := HR5.out
          generalize sqrtF (sumT (qS x K) m) = sq at *
          generalize sumT (qS x K) m = s0 at *
          generalize makeF false 1 K = pk at *
          clear hqe
          go_wp2_with (first
            | (go_at_call 63; refine (HP.out _).mono ?_; rintro e w' ⟨rfl, rfl⟩)
            | (go_at_call 48; refine (HSQ.out _).mono ?_; rintro e w' ⟨rfl, rfl⟩))
          go_ret
          exact ⟨rfl, t, rfl⟩
end Go.Proofs.Ytigacobphgeeaaa
