/- Contracts: Of of givens. -/
import Derived.Test.YtcoaachajdomcaaHf
namespace Lev
def ofT (f g : Nat) : Go.Value :=
  if fin f ∧ fin g then (if rg f = 0 ∧ rg g = 0 then .tuple #[.float .f64 4607182418800017408, .float .f64 0, .float .f64 0, .bool true] else if rg (rotR f g) < INF then .tuple #[.float .f64 (fdiv (rotA f g) (rotH f g)), .float .f64 (fdiv (rotB f g) (rotH f g)), .float .f64 (rotR f g), .bool true] else .tuple #[.float .f64 0, .float .f64 0, .float .f64 0, .bool false])
  else .tuple #[.float .f64 0, .float .f64 0, .float .f64 0, .bool false]
theorem rotR_le (f g : Nat) : rg (rotR f g) ≤ INF ∧ rotR f g < 18446744073709551616 := by
  unfold rotR ldS
  have h := rr_spec (mul_pw_nonneg (rotH f g) (rotK f g))
  exact ⟨by rw [rg_word _ _ h.lt63]; exact h.le, word_lt64 _ _ h.lt63⟩
theorem topB_bd {x : Nat} (h : fin x) : -2000 ≤ topB x ∧ topB x ≤ 1023 := by
  unfold topB
  split
  · have := topS_lo x; have := topS_hi h; omega
  · omega
end Lev
namespace Go.Proofs.Ytcoaachajdomcaa
open Go.RowKit Go.Shelf Lev

attribute [local go_sem] order_lt order_gt order_eq order_ne flt_or_feq flt_or_feq' eqFloat run_store_float

theorem run_maxI {P : Program} (w : World) (ts : Array TypeId) (t : TypeId) (x y : Int) : (Builtin.max_ ts t #[.int .i64 x, .int .i64 y]).run P w = .ok (.int .i64 (max x y)) w := by
  rw [run_max_int2]
  congr 2
  split <;> omega
theorem run_minI {P : Program} (w : World) (ts : Array TypeId) (t : TypeId) (x y : Int) : (Builtin.min_ ts t #[.int .i64 x, .int .i64 y]).run P w = .ok (.int .i64 (min x y)) w := by
  rw [run_min_int2]
  congr 2
  split <;> omega
attribute [local go_sem high] run_maxI run_minI

set_option maxRecDepth 100000 in
set_option maxHeartbeats 1000000 in
theorem gof_no (f g : Nat) (hf64 : f < 18446744073709551616) (hg64 : g < 18446744073709551616) (hn : (numB f && numB g) = false) (w : World) :
    Calls Try.prog 22 #[.float .f64 f, .float .f64 g] w fun e w' => e = .returned (.tuple #[.float .f64 0, .float .f64 0, .float .f64 0, .bool false]) ∧ Below w.heap.size w w' := by
  have HM := Lib.hid (gmay_any f g hf64 hg64)
  rw [hn] at HM
  clear hn hf64 hg64
  go_enter Try.func22, Try.ntmps22
  go_wp2_with fail
  refine (HM.out _).mono ?_
  rintro e w1 ⟨rfl, hb1⟩
  obtain ⟨c1, c2, hb2, z1, z2⟩ := pair_kept hb1
  have HB := Lib.hid hb2
  clear hb1 hb2
  go_wp2
  refine bodyPost_ret (results_tmp4 rfl _ _ _) rfl ?_
  exact ⟨rfl, HB.out⟩

set_option maxRecDepth 100000 in
set_option maxHeartbeats 1000000 in
theorem gof_zero (f g : Nat) (hf64 : f < 18446744073709551616) (hg64 : g < 18446744073709551616) (hf : rg f = 0) (hg : rg g = 0) (w : World) :
    Calls Try.prog 22 #[.float .f64 f, .float .f64 g] w fun e w' => e = .returned (.tuple #[.float .f64 4607182418800017408, .float .f64 0, .float .f64 0, .bool true]) ∧ Below w.heap.size w w' := by
  have ff : fin f := by have := INF_eq; unfold fin; omega
  have fg : fin g := by have := INF_eq; unfold fin; omega
  have HM := Lib.hid (gmay_any f g hf64 hg64)
  rw [show numB f = true from decide_eq_true ff, show numB g = true from decide_eq_true fg] at HM
  have q1 : feq f 0 = true := by rw [feq_zero]; exact decide_eq_true hf
  have q2 : feq g 0 = true := by rw [feq_zero]; exact decide_eq_true hg
  clear hf hg ff fg hf64 hg64
  go_enter Try.func22, Try.ntmps22
  go_wp2_with fail
  refine (HM.out _).mono ?_
  rintro e w1 ⟨rfl, hb1⟩
  obtain ⟨c1, c2, hb2, z1, z2⟩ := pair_kept hb1
  have HB := Lib.hid hb2
  clear hb1 hb2
  go_wp2
  refine bodyPost_ret (results_tmp4 rfl _ _ _) rfl ?_
  exact ⟨rfl, HB.out⟩

def OfEnd (x y r : Nat) (b : Bool) (w : World) (e : Ending) (w' : World) : Prop :=
  e = .returned (if b then .tuple #[.float .f64 x, .float .f64 y, .float .f64 r, .bool true] else .tuple #[.float .f64 0, .float .f64 0, .float .f64 0, .bool false]) ∧ Below w.heap.size w w'

set_option maxRecDepth 100000 in
set_option maxHeartbeats 2000000 in
theorem gof_yes1 (f g : Nat) (hf64 : f < 18446744073709551616) (hg64 : g < 18446744073709551616) (ff : fin f) (fg : fin g) (h0 : ¬ (rg f = 0 ∧ rg g = 0)) (q1 : feq f 0 = false) (w : World) :
    Calls Try.prog 22 #[.float .f64 f, .float .f64 g] w (OfEnd (fdiv (rotA f g) (rotH f g)) (fdiv (rotB f g) (rotH f g)) (rotR f g) (decide (rg (rotR f g) < INF)) w) := by
  have HM := Lib.hid (gmay_any f g hf64 hg64)
  rw [show numB f = true from decide_eq_true ff, show numB g = true from decide_eq_true fg] at HM
  obtain ⟨_, _, m1, m2, m3, m4, m5, m6, m7, m8, m9⟩ := rot_facts ff fg h0
  obtain ⟨hr1, hr2⟩ := rotR_le f g
  obtain ⟨k1, k2⟩ := rotK_bd f g
  obtain ⟨t1, t2⟩ := topB_bd ff
  obtain ⟨t3, t4⟩ := topB_bd fg
  have HK := Lib.hid (show rotK f g = max (-1000) (min 1000 (max (topB f) (topB g))) from rfl)
  have HT1 := Lib.hid (fun W => top_any f hf64 W)
  have HT2 := Lib.hid (fun W => top_any g hg64 W)
  have HSC := Lib.hid (fun W => gscale_any f g _ _ _ m1 m2 W)
  have HSZ := Lib.hid (fun W => gsize_any _ _ _ _ _ _ m3 m4 m5 m6 W)
  have HP := Lib.hid (fun W => pow_any (rotK f g) W)
  have g7 : floatBits .mul .f64 (rotH f g) (makeF false 1 (rotK f g)) = some (rotR f g) := m7
  have g8 : floatBits .quo .f64 (rotA f g) (rotH f g) = some (fdiv (rotA f g) (rotH f g)) := m8
  have g9 : floatBits .quo .f64 (rotB f g) (rotH f g) = some (fdiv (rotB f g) (rotH f g)) := m9
  have r7 := fun (w : World) => run_float_arith (P := Try.prog) w .mul 22 .f64 _ _ _ g7
  have r8 := fun (w : World) => run_float_arith (P := Try.prog) w .quo 22 .f64 _ _ _ g8
  have r9 := fun (w : World) => run_float_arith (P := Try.prog) w .quo 22 .f64 _ _ _ g9
  have HI := Lib.hid (fun W => isInf_any (rotR f g) hr2 W)
  have hdI : decide (rg (rotR f g) = INF) = !decide (rg (rotR f g) < INF) := by rw [← decide_not, decide_eq_decide]; omega
  rw [hdI] at HI
  have HB1 := Lib.hid (And.intro k1 k2); have HB2 := Lib.hid (And.intro t1 t2); have HB3 := Lib.hid (And.intro t3 t4)
  clear k1 k2 t1 t2 t3 t4
  clear m1 m2 m3 m4 m5 m6 m7 m8 m9 g7 g8 g9 hr1 hr2 ff fg h0 hdI hf64 hg64
  generalize decide (rg (rotR f g) < INF) = bR at *
  generalize fdiv (rotA f g) (rotH f g) = c at *
  generalize fdiv (rotB f g) (rotH f g) = s at *
  generalize rotA f g = A at *
  generalize rotB f g = B at *
  generalize rotH f g = H at *
  generalize rotR f g = R at *
  generalize rotK f g = K at *
  generalize makeF false 1 K = pk at *
  go_enter Try.func22, Try.ntmps22
  go_wp2_with fail
  refine (HM.out _).mono ?_
  rintro e w1 ⟨rfl, hb1⟩
  have bk1 := Lib.hid ((Bk.new w 56 #[.float .f64 f, .float .f64 g]).below hb1 (by simp))
  obtain ⟨c1, c2, hb2, z1, z2⟩ := pair_kept hb1
  have HB := Lib.hid hb2
  clear hb1 hb2
  go_wp2_with (first
    | (go_at_call 38; (((with_reducible refine (HT1.out _).mono ?_)); rintro e w' ⟨rfl, rfl⟩))
    | (go_at_call 38; (((with_reducible refine (HT2.out _).mono ?_)); rintro e w' ⟨rfl, rfl⟩)))
  rw [← HK.out]
  refine (HSC.out _).mono ?_
  rintro e w2 ⟨rfl, hb2⟩
  have b0 := (bk1.out).below hb2 bk1.out.lt
  have BB := Lib.hid (Below.chain HB.out hb2)
  have d1 := b0.cell 0; have d2 := b0.cell 1
  have y1 := b0.frozen 0; have y2 := b0.frozen 1
  have hset := Lib.hid ((b0.set 0 (.float .f64 A)).set 1 (.float .f64 B))
  have hbs : Below w.heap.size w ((w2.setCell ⟨w.heap.size, 0, none⟩ (.float .f64 A)).setCell ⟨w.heap.size, 1, none⟩ (.float .f64 B)) := (BB.out.setCell (Nat.le_refl _) _).setCell (Nat.le_refl _) _
  have HBS := Lib.hid hbs
  clear hb2 b0 hbs c1 c2 z1 z2
  go_wp2_with fail
  refine (HSZ.out _).mono ?_
  rintro e w3 ⟨rfl, hb3⟩
  have b3 := (hset.out).below hb3 hset.out.lt
  have d3 : w3.cell? ⟨w.heap.size, 0, none⟩ = some (.float .f64 A) := b3.cell 0
  have d4 : w3.cell? ⟨w.heap.size, 1, none⟩ = some (.float .f64 B) := b3.cell 1
  have HB3 := Lib.hid (Below.chain HBS.out hb3)
  clear hb3 b3 d1 d2 y1 y2
  cases bR
  · go_wp2_with (first
      | (go_at_call 33; refine (HP.out _).mono ?_; rintro e w' ⟨rfl, rfl⟩)
      | (go_at_call 49; refine (HI.out _).mono ?_; rintro e w' ⟨rfl, rfl⟩))
    refine bodyPost_ret (results_tmp4 rfl _ _ _) rfl ?_
    exact ⟨rfl, HB3.out⟩
  · go_wp2_with (first
      | (go_at_call 33; refine (HP.out _).mono ?_; rintro e w' ⟨rfl, rfl⟩)
      | (go_at_call 49; refine (HI.out _).mono ?_; rintro e w' ⟨rfl, rfl⟩))
    go_quiet (fail)
    go_wp2
    refine bodyPost_ret (results_tmp4 rfl _ _ _) rfl ?_
    exact ⟨rfl, HB3.out.drewN _⟩

set_option maxRecDepth 100000 in
set_option maxHeartbeats 2000000 in
theorem gof_yes2 (f g : Nat) (hf64 : f < 18446744073709551616) (hg64 : g < 18446744073709551616) (ff : fin f) (fg : fin g) (h0 : ¬ (rg f = 0 ∧ rg g = 0)) (q1 : feq f 0 = true) (q2 : feq g 0 = false) (w : World) :
    Calls Try.prog 22 #[.float .f64 f, .float .f64 g] w (OfEnd (fdiv (rotA f g) (rotH f g)) (fdiv (rotB f g) (rotH f g)) (rotR f g) (decide (rg (rotR f g) < INF)) w) := by
  have HM := Lib.hid (gmay_any f g hf64 hg64)
  rw [show numB f = true from decide_eq_true ff, show numB g = true from decide_eq_true fg] at HM
  obtain ⟨_, _, m1, m2, m3, m4, m5, m6, m7, m8, m9⟩ := rot_facts ff fg h0
  obtain ⟨hr1, hr2⟩ := rotR_le f g
  obtain ⟨k1, k2⟩ := rotK_bd f g
  obtain ⟨t1, t2⟩ := topB_bd ff
  obtain ⟨t3, t4⟩ := topB_bd fg
  have HK := Lib.hid (show rotK f g = max (-1000) (min 1000 (max (topB f) (topB g))) from rfl)
  have HT1 := Lib.hid (fun W => top_any f hf64 W)
  have HT2 := Lib.hid (fun W => top_any g hg64 W)
  have HSC := Lib.hid (fun W => gscale_any f g _ _ _ m1 m2 W)
  have HSZ := Lib.hid (fun W => gsize_any _ _ _ _ _ _ m3 m4 m5 m6 W)
  have HP := Lib.hid (fun W => pow_any (rotK f g) W)
  have g7 : floatBits .mul .f64 (rotH f g) (makeF false 1 (rotK f g)) = some (rotR f g) := m7
  have g8 : floatBits .quo .f64 (rotA f g) (rotH f g) = some (fdiv (rotA f g) (rotH f g)) := m8
  have g9 : floatBits .quo .f64 (rotB f g) (rotH f g) = some (fdiv (rotB f g) (rotH f g)) := m9
  have r7 := fun (w : World) => run_float_arith (P := Try.prog) w .mul 22 .f64 _ _ _ g7
  have r8 := fun (w : World) => run_float_arith (P := Try.prog) w .quo 22 .f64 _ _ _ g8
  have r9 := fun (w : World) => run_float_arith (P := Try.prog) w .quo 22 .f64 _ _ _ g9
  have HI := Lib.hid (fun W => isInf_any (rotR f g) hr2 W)
  have hdI : decide (rg (rotR f g) = INF) = !decide (rg (rotR f g) < INF) := by rw [← decide_not, decide_eq_decide]; omega
  rw [hdI] at HI
  have HB1 := Lib.hid (And.intro k1 k2); have HB2 := Lib.hid (And.intro t1 t2); have HB3 := Lib.hid (And.intro t3 t4)
  clear k1 k2 t1 t2 t3 t4
  clear m1 m2 m3 m4 m5 m6 m7 m8 m9 g7 g8 g9 hr1 hr2 ff fg h0 hdI hf64 hg64
  generalize decide (rg (rotR f g) < INF) = bR at *
  generalize fdiv (rotA f g) (rotH f g) = c at *
  generalize fdiv (rotB f g) (rotH f g) = s at *
  generalize rotA f g = A at *
  generalize rotB f g = B at *
  generalize rotH f g = H at *
  generalize rotR f g = R at *
  generalize rotK f g = K at *
  generalize makeF false 1 K = pk at *
  go_enter Try.func22, Try.ntmps22
  go_wp2_with fail
  refine (HM.out _).mono ?_
  rintro e w1 ⟨rfl, hb1⟩
  have bk1 := Lib.hid ((Bk.new w 56 #[.float .f64 f, .float .f64 g]).below hb1 (by simp))
  obtain ⟨c1, c2, hb2, z1, z2⟩ := pair_kept hb1
  have HB := Lib.hid hb2
  clear hb1 hb2
  go_wp2_with (first
    | (go_at_call 38; (((with_reducible refine (HT1.out _).mono ?_)); rintro e w' ⟨rfl, rfl⟩))
    | (go_at_call 38; (((with_reducible refine (HT2.out _).mono ?_)); rintro e w' ⟨rfl, rfl⟩)))
  rw [← HK.out]
  refine (HSC.out _).mono ?_
  rintro e w2 ⟨rfl, hb2⟩
  have b0 := (bk1.out).below hb2 bk1.out.lt
  have BB := Lib.hid (Below.chain HB.out hb2)
  have d1 := b0.cell 0; have d2 := b0.cell 1
  have y1 := b0.frozen 0; have y2 := b0.frozen 1
  have hset := Lib.hid ((b0.set 0 (.float .f64 A)).set 1 (.float .f64 B))
  have hbs : Below w.heap.size w ((w2.setCell ⟨w.heap.size, 0, none⟩ (.float .f64 A)).setCell ⟨w.heap.size, 1, none⟩ (.float .f64 B)) := (BB.out.setCell (Nat.le_refl _) _).setCell (Nat.le_refl _) _
  have HBS := Lib.hid hbs
  clear hb2 b0 hbs c1 c2 z1 z2
  go_wp2_with fail
  refine (HSZ.out _).mono ?_
  rintro e w3 ⟨rfl, hb3⟩
  have b3 := (hset.out).below hb3 hset.out.lt
  have d3 : w3.cell? ⟨w.heap.size, 0, none⟩ = some (.float .f64 A) := b3.cell 0
  have d4 : w3.cell? ⟨w.heap.size, 1, none⟩ = some (.float .f64 B) := b3.cell 1
  have HB3 := Lib.hid (Below.chain HBS.out hb3)
  clear hb3 b3 d1 d2 y1 y2
  cases bR
  · go_wp2_with (first
      | (go_at_call 33; refine (HP.out _).mono ?_; rintro e w' ⟨rfl, rfl⟩)
      | (go_at_call 49; refine (HI.out _).mono ?_; rintro e w' ⟨rfl, rfl⟩))
    refine bodyPost_ret (results_tmp4 rfl _ _ _) rfl ?_
    exact ⟨rfl, HB3.out⟩
  · go_wp2_with (first
      | (go_at_call 33; refine (HP.out _).mono ?_; rintro e w' ⟨rfl, rfl⟩)
      | (go_at_call 49; refine (HI.out _).mono ?_; rintro e w' ⟨rfl, rfl⟩))
    go_quiet (fail)
    go_wp2
    refine bodyPost_ret (results_tmp4 rfl _ _ _) rfl ?_
    exact ⟨rfl, HB3.out.drewN _⟩

theorem ofT_no {f g : Nat} (h : (numB f && numB g) = false) : Value.tuple #[.float .f64 0, .float .f64 0, .float .f64 0, .bool false] = ofT f g := by
  unfold ofT; rw [if_neg]
  rintro ⟨h1, h2⟩
  rw [show numB f = true from decide_eq_true h1, show numB g = true from decide_eq_true h2] at h
  cases h
theorem ofT_zero {f g : Nat} (hf : rg f = 0) (hg : rg g = 0) : Value.tuple #[.float .f64 4607182418800017408, .float .f64 0, .float .f64 0, .bool true] = ofT f g := by
  have hI := INF_eq
  unfold ofT; rw [if_pos ⟨by unfold fin; omega, by unfold fin; omega⟩, if_pos ⟨hf, hg⟩]
theorem ofT_yes {f g : Nat} (ff : fin f) (fg : fin g) (h0 : ¬ (rg f = 0 ∧ rg g = 0)) :
    (if decide (rg (rotR f g) < INF) then Value.tuple #[.float .f64 (fdiv (rotA f g) (rotH f g)), .float .f64 (fdiv (rotB f g) (rotH f g)), .float .f64 (rotR f g), .bool true] else .tuple #[.float .f64 0, .float .f64 0, .float .f64 0, .bool false]) = ofT f g := by
  unfold ofT
  rw [if_pos (c := fin f ∧ fin g) ⟨ff, fg⟩, if_neg (c := rg f = 0 ∧ rg g = 0) h0]
  simp only [decide_eq_true_eq]

theorem gof_any (f g : Nat) (hf64 : f < 18446744073709551616) (hg64 : g < 18446744073709551616) (w : World) :
    Calls Try.prog 22 #[.float .f64 f, .float .f64 g] w fun e w' => e = .returned (ofT f g) ∧ Below w.heap.size w w' := by
  by_cases ff : fin f
  · by_cases fg : fin g
    · by_cases h0 : rg f = 0 ∧ rg g = 0
      · exact calls_eq (gof_zero f g hf64 hg64 h0.1 h0.2 w) (ofT_zero h0.1 h0.2)
      · by_cases h1 : rg f = 0
        · exact calls_eq (gof_yes2 f g hf64 hg64 ff fg h0 (by rw [feq_zero]; exact decide_eq_true h1) (by rw [feq_zero]; exact decide_eq_false (fun h => h0 ⟨h1, h⟩)) w) (ofT_yes ff fg h0)
        · exact calls_eq (gof_yes1 f g hf64 hg64 ff fg h0 (by rw [feq_zero]; exact decide_eq_false h1) w) (ofT_yes ff fg h0)
    · have hn : (numB f && numB g) = false := by rw [show numB g = false from decide_eq_false fg, Bool.and_false]
      exact calls_eq (gof_no f g hf64 hg64 hn w) (ofT_no hn)
  · have hn : (numB f && numB g) = false := by rw [show numB f = false from decide_eq_false ff, Bool.false_and]
    exact calls_eq (gof_no f g hf64 hg64 hn w) (ofT_no hn)

end Go.Proofs.Ytcoaachajdomcaa
