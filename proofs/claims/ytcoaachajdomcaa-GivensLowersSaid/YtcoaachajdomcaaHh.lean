/- Contracts: Of of the document. -/
import Derived.Test.YtcoaachajdomcaaHg
set_option linter.unusedVariables false
namespace Go.Proofs.Ytcoaachajdomcaa
open Go.RowKit Go.Shelf Lev

attribute [local go_sem] order_lt order_gt order_eq order_ne flt_or_feq flt_or_feq'

attribute [local go_sem high] run_maxI run_minI

def OfEnd2 (x y r : Nat) (b : Bool) (w : World) (e : Ending) (w' : World) : Prop :=
  e = .returned (if b then .tuple #[.float .f64 x, .float .f64 y, .float .f64 r, .bool true] else .tuple #[.float .f64 0, .float .f64 0, .float .f64 0, .bool false]) ∧ w = w'

set_option maxRecDepth 100000 in
set_option maxHeartbeats 2000000 in
theorem rof_no1 (f g : Nat) (hf64 : f < 18446744073709551616) (hg64 : g < 18446744073709551616) (hn : numB f = false) (w : World) :
    Calls Try.prog 23 #[.float .f64 f, .float .f64 g] w fun e w' => e = .returned (.tuple #[.float .f64 0, .float .f64 0, .float .f64 0, .bool false]) ∧ w = w' := by
  have HF := Lib.hid (fun W => rnumber_any f hf64 W)
  rw [hn] at HF
  clear hn
  clear hf64 hg64
  go_enter Try.func23, Try.ntmps23
  go_wp2_with fail
  refine (HF.out _).mono ?_
  rintro e w' ⟨rfl, rfl⟩
  go_wp2
  refine bodyPost_ret (results_tmp4 rfl _ _ _) rfl ?_
  exact ⟨rfl, rfl⟩

set_option maxRecDepth 100000 in
set_option maxHeartbeats 2000000 in
theorem rof_no2 (f g : Nat) (hf64 : f < 18446744073709551616) (hg64 : g < 18446744073709551616) (hn : numB f = true) (hn2 : numB g = false) (w : World) :
    Calls Try.prog 23 #[.float .f64 f, .float .f64 g] w fun e w' => e = .returned (.tuple #[.float .f64 0, .float .f64 0, .float .f64 0, .bool false]) ∧ w = w' := by
  have HF := Lib.hid (fun W => rnumber_any f hf64 W)
  rw [hn] at HF
  have HG := Lib.hid (fun W => rnumber_any g hg64 W)
  rw [hn2] at HG
  clear hn hn2
  clear hf64 hg64
  go_enter Try.func23, Try.ntmps23
  go_wp2_with fail
  refine (HF.out _).mono ?_
  rintro e w' ⟨rfl, rfl⟩
  go_wp2_with fail
  refine (HG.out _).mono ?_
  rintro e w' ⟨rfl, rfl⟩
  go_wp2
  refine bodyPost_ret (results_tmp4 rfl _ _ _) rfl ?_
  exact ⟨rfl, rfl⟩

set_option maxRecDepth 100000 in
set_option maxHeartbeats 2000000 in
theorem rof_zero (f g : Nat) (hf64 : f < 18446744073709551616) (hg64 : g < 18446744073709551616) (hf : rg f = 0) (hg : rg g = 0) (w : World) :
    Calls Try.prog 23 #[.float .f64 f, .float .f64 g] w fun e w' => e = .returned (.tuple #[.float .f64 4607182418800017408, .float .f64 0, .float .f64 0, .bool true]) ∧ w = w' := by
  have ff : fin f := by have := INF_eq; unfold fin; omega
  have fg : fin g := by have := INF_eq; unfold fin; omega
  have hn : numB f = true := decide_eq_true ff
  have hn2 : numB g = true := decide_eq_true fg
  have HF := Lib.hid (fun W => rnumber_any f hf64 W)
  rw [hn] at HF
  have HG := Lib.hid (fun W => rnumber_any g hg64 W)
  rw [hn2] at HG
  clear hn hn2
  have q1 : feq f 0 = true := by rw [feq_zero]; exact decide_eq_true hf
  have q2 : feq g 0 = true := by rw [feq_zero]; exact decide_eq_true hg
  clear hf hg ff fg
  clear hf64 hg64
  go_enter Try.func23, Try.ntmps23
  go_wp2_with fail
  refine (HF.out _).mono ?_
  rintro e w' ⟨rfl, rfl⟩
  go_wp2_with fail
  refine (HG.out _).mono ?_
  rintro e w' ⟨rfl, rfl⟩
  go_wp2
  refine bodyPost_ret (results_tmp4 rfl _ _ _) rfl ?_
  exact ⟨rfl, rfl⟩

set_option maxRecDepth 100000 in
set_option maxHeartbeats 2000000 in
theorem rof_yes1 (f g : Nat) (hf64 : f < 18446744073709551616) (hg64 : g < 18446744073709551616) (ff : fin f) (fg : fin g) (h0 : ¬ (rg f = 0 ∧ rg g = 0)) (q1 : feq f 0 = false) (w : World) :
    Calls Try.prog 23 #[.float .f64 f, .float .f64 g] w (OfEnd2 (fdiv (rotA f g) (rotH f g)) (fdiv (rotB f g) (rotH f g)) (rotR f g) (decide (rg (rotR f g) < INF)) w) := by
  have hn : numB f = true := decide_eq_true ff
  have hn2 : numB g = true := decide_eq_true fg
  have HF := Lib.hid (fun W => rnumber_any f hf64 W)
  rw [hn] at HF
  have HG := Lib.hid (fun W => rnumber_any g hg64 W)
  rw [hn2] at HG
  clear hn hn2
  obtain ⟨_, _, m1, m2, m3, m4, m5, m6, m7, m8, m9⟩ := rot_facts ff fg h0
  obtain ⟨hr1, hr2⟩ := rotR_le f g
  have HK := Lib.hid (show rotK f g = min (max (topB f) (max (topB g) (-1000))) 1000 from by unfold rotK; omega)
  have HT1 := Lib.hid (fun W => rtop_any f hf64 W)
  have HT2 := Lib.hid (fun W => rtop_any g hg64 W)
  have HSQ := Lib.hid (fun W => sqrt_any _ _ m6 W)
  have HP := Lib.hid (fun W => rpow_any (rotK f g) W)
  have HPN := Lib.hid (fun W => rpow_any (-rotK f g) W)
  have HB1 := Lib.hid (rotK_bd f g)
  have HB2 := Lib.hid (topB_bd ff)
  have HB3 := Lib.hid (topB_bd fg)
  have g1 : floatBits .mul .f64 f (makeF false 1 (-rotK f g)) = some (rotA f g) := m1
  have g2 : floatBits .mul .f64 g (makeF false 1 (-rotK f g)) = some (rotB f g) := m2
  have g3 : floatBits .mul .f64 (rotA f g) (rotA f g) = some (fmul (rotA f g) (rotA f g)) := m3
  have g4 : floatBits .mul .f64 (rotB f g) (rotB f g) = some (fmul (rotB f g) (rotB f g)) := m4
  have g5 : floatBits .add .f64 (fmul (rotA f g) (rotA f g)) (fmul (rotB f g) (rotB f g)) = some (rotS f g) := m5
  have g7 : floatBits .mul .f64 (rotH f g) (makeF false 1 (rotK f g)) = some (rotR f g) := m7
  have g8 : floatBits .quo .f64 (rotA f g) (rotH f g) = some (fdiv (rotA f g) (rotH f g)) := m8
  have g9 : floatBits .quo .f64 (rotB f g) (rotH f g) = some (fdiv (rotB f g) (rotH f g)) := m9
  have r1 := fun (w : World) => run_float_arith (P := Try.prog) w .mul 22 .f64 _ _ _ g1
  have r2 := fun (w : World) => run_float_arith (P := Try.prog) w .mul 22 .f64 _ _ _ g2
  have r3 := fun (w : World) => run_float_arith (P := Try.prog) w .mul 22 .f64 _ _ _ g3
  have r4 := fun (w : World) => run_float_arith (P := Try.prog) w .mul 22 .f64 _ _ _ g4
  have r5 := fun (w : World) => run_float_arith (P := Try.prog) w .add 22 .f64 _ _ _ g5
  have r7 := fun (w : World) => run_float_arith (P := Try.prog) w .mul 22 .f64 _ _ _ g7
  have r8 := fun (w : World) => run_float_arith (P := Try.prog) w .quo 22 .f64 _ _ _ g8
  have r9 := fun (w : World) => run_float_arith (P := Try.prog) w .quo 22 .f64 _ _ _ g9
  have HN := Lib.hid (fun W => rnumber_any (rotR f g) hr2 W)
  rw [show numB (rotR f g) = decide (rg (rotR f g) < INF) from rfl] at HN
  clear m1 m2 m3 m4 m5 m6 m7 m8 m9 g1 g2 g3 g4 g5 g7 g8 g9 hr1 hr2 ff fg h0
  generalize decide (rg (rotR f g) < INF) = bR at *
  generalize fdiv (rotA f g) (rotH f g) = c at *
  generalize fdiv (rotB f g) (rotH f g) = s at *
  generalize fmul (rotA f g) (rotA f g) = qa at *
  generalize fmul (rotB f g) (rotB f g) = qb at *
  generalize rotS f g = S at *
  generalize rotA f g = A at *
  generalize rotB f g = B at *
  generalize rotH f g = H at *
  generalize rotR f g = R at *
  generalize rotK f g = K at *
  generalize makeF false 1 K = pk at *
  generalize makeF false 1 (-K) = pn at *
  clear hf64 hg64
  go_enter Try.func23, Try.ntmps23
  go_wp2_with fail
  refine (HF.out _).mono ?_
  rintro e w' ⟨rfl, rfl⟩
  go_wp2_with fail
  refine (HG.out _).mono ?_
  rintro e w' ⟨rfl, rfl⟩
  go_wp2_with fail
  refine (HT1.out _).mono ?_
  rintro e w' ⟨rfl, rfl⟩
  go_wp2_with fail
  refine (HT2.out _).mono ?_
  rintro e w' ⟨rfl, rfl⟩
  go_wp2_with fail
  rw [← HK.out]
  obtain ⟨kb1, kb2⟩ := HB1.out
  refine (HPN.out _).mono ?_
  rintro e w' ⟨rfl, rfl⟩
  go_wp2_with fail
  refine (HPN.out _).mono ?_
  rintro e w' ⟨rfl, rfl⟩
  go_wp2_with fail
  refine (HSQ.out _).mono ?_
  rintro e w' ⟨rfl, rfl⟩
  go_wp2_with fail
  refine (HP.out _).mono ?_
  rintro e w' ⟨rfl, rfl⟩
  go_wp2_with fail
  refine (HN.out _).mono ?_
  rintro e w' ⟨rfl, rfl⟩
  cases bR
  all_goals
    go_wp2
    refine bodyPost_ret (results_tmp4 rfl _ _ _) rfl ?_
    exact ⟨rfl, rfl⟩

set_option maxRecDepth 100000 in
set_option maxHeartbeats 2000000 in
theorem rof_yes2 (f g : Nat) (hf64 : f < 18446744073709551616) (hg64 : g < 18446744073709551616) (ff : fin f) (fg : fin g) (h0 : ¬ (rg f = 0 ∧ rg g = 0)) (q1 : feq f 0 = true) (q2 : feq g 0 = false) (w : World) :
    Calls Try.prog 23 #[.float .f64 f, .float .f64 g] w (OfEnd2 (fdiv (rotA f g) (rotH f g)) (fdiv (rotB f g) (rotH f g)) (rotR f g) (decide (rg (rotR f g) < INF)) w) := by
  have hn : numB f = true := decide_eq_true ff
  have hn2 : numB g = true := decide_eq_true fg
  have HF := Lib.hid (fun W => rnumber_any f hf64 W)
  rw [hn] at HF
  have HG := Lib.hid (fun W => rnumber_any g hg64 W)
  rw [hn2] at HG
  clear hn hn2
  obtain ⟨_, _, m1, m2, m3, m4, m5, m6, m7, m8, m9⟩ := rot_facts ff fg h0
  obtain ⟨hr1, hr2⟩ := rotR_le f g
  have HK := Lib.hid (show rotK f g = min (max (topB f) (max (topB g) (-1000))) 1000 from by unfold rotK; omega)
  have HT1 := Lib.hid (fun W => rtop_any f hf64 W)
  have HT2 := Lib.hid (fun W => rtop_any g hg64 W)
  have HSQ := Lib.hid (fun W => sqrt_any _ _ m6 W)
  have HP := Lib.hid (fun W => rpow_any (rotK f g) W)
  have HPN := Lib.hid (fun W => rpow_any (-rotK f g) W)
  have HB1 := Lib.hid (rotK_bd f g)
  have HB2 := Lib.hid (topB_bd ff)
  have HB3 := Lib.hid (topB_bd fg)
  have g1 : floatBits .mul .f64 f (makeF false 1 (-rotK f g)) = some (rotA f g) := m1
  have g2 : floatBits .mul .f64 g (makeF false 1 (-rotK f g)) = some (rotB f g) := m2
  have g3 : floatBits .mul .f64 (rotA f g) (rotA f g) = some (fmul (rotA f g) (rotA f g)) := m3
  have g4 : floatBits .mul .f64 (rotB f g) (rotB f g) = some (fmul (rotB f g) (rotB f g)) := m4
  have g5 : floatBits .add .f64 (fmul (rotA f g) (rotA f g)) (fmul (rotB f g) (rotB f g)) = some (rotS f g) := m5
  have g7 : floatBits .mul .f64 (rotH f g) (makeF false 1 (rotK f g)) = some (rotR f g) := m7
  have g8 : floatBits .quo .f64 (rotA f g) (rotH f g) = some (fdiv (rotA f g) (rotH f g)) := m8
  have g9 : floatBits .quo .f64 (rotB f g) (rotH f g) = some (fdiv (rotB f g) (rotH f g)) := m9
  have r1 := fun (w : World) => run_float_arith (P := Try.prog) w .mul 22 .f64 _ _ _ g1
  have r2 := fun (w : World) => run_float_arith (P := Try.prog) w .mul 22 .f64 _ _ _ g2
  have r3 := fun (w : World) => run_float_arith (P := Try.prog) w .mul 22 .f64 _ _ _ g3
  have r4 := fun (w : World) => run_float_arith (P := Try.prog) w .mul 22 .f64 _ _ _ g4
  have r5 := fun (w : World) => run_float_arith (P := Try.prog) w .add 22 .f64 _ _ _ g5
  have r7 := fun (w : World) => run_float_arith (P := Try.prog) w .mul 22 .f64 _ _ _ g7
  have r8 := fun (w : World) => run_float_arith (P := Try.prog) w .quo 22 .f64 _ _ _ g8
  have r9 := fun (w : World) => run_float_arith (P := Try.prog) w .quo 22 .f64 _ _ _ g9
  have HN := Lib.hid (fun W => rnumber_any (rotR f g) hr2 W)
  rw [show numB (rotR f g) = decide (rg (rotR f g) < INF) from rfl] at HN
  clear m1 m2 m3 m4 m5 m6 m7 m8 m9 g1 g2 g3 g4 g5 g7 g8 g9 hr1 hr2 ff fg h0
  generalize decide (rg (rotR f g) < INF) = bR at *
  generalize fdiv (rotA f g) (rotH f g) = c at *
  generalize fdiv (rotB f g) (rotH f g) = s at *
  generalize fmul (rotA f g) (rotA f g) = qa at *
  generalize fmul (rotB f g) (rotB f g) = qb at *
  generalize rotS f g = S at *
  generalize rotA f g = A at *
  generalize rotB f g = B at *
  generalize rotH f g = H at *
  generalize rotR f g = R at *
  generalize rotK f g = K at *
  generalize makeF false 1 K = pk at *
  generalize makeF false 1 (-K) = pn at *
  clear hf64 hg64
  go_enter Try.func23, Try.ntmps23
  go_wp2_with fail
  refine (HF.out _).mono ?_
  rintro e w' ⟨rfl, rfl⟩
  go_wp2_with fail
  refine (HG.out _).mono ?_
  rintro e w' ⟨rfl, rfl⟩
  go_wp2_with fail
  refine (HT1.out _).mono ?_
  rintro e w' ⟨rfl, rfl⟩
  go_wp2_with fail
  refine (HT2.out _).mono ?_
  rintro e w' ⟨rfl, rfl⟩
  go_wp2_with fail
  rw [← HK.out]
  obtain ⟨kb1, kb2⟩ := HB1.out
  refine (HPN.out _).mono ?_
  rintro e w' ⟨rfl, rfl⟩
  go_wp2_with fail
  refine (HPN.out _).mono ?_
  rintro e w' ⟨rfl, rfl⟩
  go_wp2_with fail
  refine (HSQ.out _).mono ?_
  rintro e w' ⟨rfl, rfl⟩
  go_wp2_with fail
  refine (HP.out _).mono ?_
  rintro e w' ⟨rfl, rfl⟩
  go_wp2_with fail
  refine (HN.out _).mono ?_
  rintro e w' ⟨rfl, rfl⟩
  cases bR
  all_goals
    go_wp2
    refine bodyPost_ret (results_tmp4 rfl _ _ _) rfl ?_
    exact ⟨rfl, rfl⟩

theorem rof_any (f g : Nat) (hf64 : f < 18446744073709551616) (hg64 : g < 18446744073709551616) (w : World) :
    Calls Try.prog 23 #[.float .f64 f, .float .f64 g] w fun e w' => e = .returned (ofT f g) ∧ w = w' := by
  by_cases ff : fin f
  · by_cases fg : fin g
    · by_cases h0 : rg f = 0 ∧ rg g = 0
      · exact calls_eq (rof_zero f g hf64 hg64 h0.1 h0.2 w) (ofT_zero h0.1 h0.2)
      · by_cases h1 : rg f = 0
        · exact calls_eq (rof_yes2 f g hf64 hg64 ff fg h0 (by rw [feq_zero]; exact decide_eq_true h1) (by rw [feq_zero]; exact decide_eq_false (fun h => h0 ⟨h1, h⟩)) w) (ofT_yes ff fg h0)
        · exact calls_eq (rof_yes1 f g hf64 hg64 ff fg h0 (by rw [feq_zero]; exact decide_eq_false h1) w) (ofT_yes ff fg h0)
    · have hn : (numB f && numB g) = false := by rw [show numB g = false from decide_eq_false fg, Bool.and_false]
      exact calls_eq (rof_no2 f g hf64 hg64 (decide_eq_true ff) (decide_eq_false fg) w) (ofT_no hn)
  · have hn : (numB f && numB g) = false := by rw [show numB f = false from decide_eq_false ff, Bool.false_and]
    exact calls_eq (rof_no1 f g hf64 hg64 (decide_eq_false ff) w) (ofT_no hn)

end Go.Proofs.Ytcoaachajdomcaa
