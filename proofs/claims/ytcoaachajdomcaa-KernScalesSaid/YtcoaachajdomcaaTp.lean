/- Scaling and sums. -/
import Derived.Test.YtcoaachajdomcaaTo
namespace Lev

/-- A number that is a whole number of 2 to the power of -852. -/
def Lat (v : Rat) : Prop := ∃ z : Int, v = (z : Rat) * pw (-852)
theorem Lat.zero : Lat 0 := ⟨0, by rw [show ((0 : Int) : Rat) = 0 from rfl, Rat.zero_mul]⟩
theorem Lat.neg {v : Rat} (h : Lat v) : Lat (-v) := by
  obtain ⟨z, rfl⟩ := h
  exact ⟨-z, by rw [Rat.intCast_neg, Rat.neg_mul]⟩
theorem Lat.add {v w : Rat} (h : Lat v) (h2 : Lat w) : Lat (v + w) := by
  obtain ⟨z, rfl⟩ := h
  obtain ⟨y, rfl⟩ := h2
  exact ⟨z + y, by rw [Rat.intCast_add, Rat.add_mul]⟩
theorem Lat.abs {v : Rat} (h : Lat v) : Lat (ab v) := by
  unfold ab
  split
  · exact h.neg
  · exact h
theorem Lat.sv {v : Rat} (s : Bool) (h : Lat v) : Lat (sv s v) := by
  cases s
  · exact h
  · exact h.neg
theorem Lat.nz {v : Rat} (h : Lat v) (h0 : 0 ≤ v) (hn : v ≠ 0) : pw (-852) ≤ v := by
  obtain ⟨z, rfl⟩ := h
  have hp := pw_pos (-852)
  have hz : 1 ≤ z := by
    rcases Int.lt_or_le z 1 with h1 | h1
    · exfalso
      have h2 : (z : Rat) ≤ ((0 : Int) : Rat) := Rat.intCast_le_intCast.2 (by omega)
      have h3 := Rat.mul_le_mul_of_nonneg_right h2 (Rat.le_of_lt hp)
      rw [show ((0 : Int) : Rat) = 0 from rfl, Rat.zero_mul] at h3
      exact hn (Rat.le_antisymm h3 h0)
    · exact h1
  have h2 : ((1 : Int) : Rat) ≤ (z : Rat) := Rat.intCast_le_intCast.2 hz
  have h3 := Rat.mul_le_mul_of_nonneg_right h2 (Rat.le_of_lt hp)
  rw [show ((1 : Int) : Rat) = 1 from rfl, Rat.one_mul] at h3
  exact h3
theorem lat_seg {e m : Nat} (he : e = 0 ∨ 4503599627370496 ≤ m) (hm : m < 9007199254740992) (h : 222 ≤ e) : Lat ((rm (e * 4503599627370496 + m) : Rat) * pw (-1074)) := by
  rw [rm_seg e m he (by omega)]
  refine ⟨((m * 2 ^ (e - 222) : Nat) : Int), ?_⟩
  rw [show (((m * 2 ^ (e - 222) : Nat) : Int) : Rat) = ((m * 2 ^ (e - 222) : Nat) : Rat) from rfl, Rat.natCast_mul, Rat.natCast_mul, ← pw_nat, ← pw_nat, Rat.mul_assoc, Rat.mul_assoc, ← pw_add, ← pw_add, show (e : Int) + -1074 = ((e - 222 : Nat) : Int) + -852 from by omega]
theorem lat_big {r : Nat} (h : 222 * 4503599627370496 + 4503599627370496 ≤ r) : Lat ((rm r : Rat) * pw (-1074)) := by
  obtain ⟨e, m, rfl, he, hm⟩ := rung_seg r
  exact lat_seg he hm (by omega)
/-- A whole number of 2^-852 is one, rounded. -/
theorem lat_rnd {x : Rat} {r : Nat} (h : IsRnd x r) (hl : Lat x) (h0 : 0 ≤ x) (hr : r < INF) : Lat ((rm r : Rat) * pw (-1074)) := by
  have A1 := (h.2.1 hr).1
  obtain ⟨e, m, rfl, he, hm⟩ := rung_seg r
  by_cases h2 : 222 ≤ e
  · exact lat_seg he hm h2
  · obtain ⟨z, rfl⟩ := hl
    rw [mid2_seg e m he hm, Rat.natCast_mul, ← pw_nat, Rat.mul_assoc, ← pw_add] at A1
    have h54 : ((2 * m + 1 : Nat) : Rat) ≤ pw 54 := by
      rw [show (54 : Int) = ((54 : Nat) : Int) from rfl, pw_nat]; exact cast_le.2 (by omega)
    have h3 := Rat.mul_le_mul_of_nonneg_right h54 (Rat.le_of_lt (pw_pos ((e : Int) + -1074)))
    rw [← pw_add, pw_half54] at h3
    have h4 : (z : Rat) * pw (-852) ≤ pw (53 + ((e : Int) + -1074)) := Rat.le_of_mul_le_mul_left (Rat.le_trans A1 h3) (by decide)
    have h5 : pw (53 + ((e : Int) + -1074)) ≤ pw (52 + -852) := pw_le (by omega)
    rw [pw_add 52] at h5
    have h6 : (z : Rat) ≤ pw 52 := Rat.le_of_mul_le_mul_right (Rat.le_trans h4 h5) (pw_pos (-852))
    have hz0 : 0 ≤ z := by
      rcases Int.lt_or_le z 0 with h1 | h1
      · exfalso
        have h7 : (z : Rat) < ((0 : Int) : Rat) := Rat.intCast_lt_intCast.2 h1
        have h8 := Rat.mul_lt_mul_of_pos_right h7 (pw_pos (-852))
        rw [show ((0 : Int) : Rat) = 0 from rfl, Rat.zero_mul] at h8
        grind
      · exact h1
    obtain ⟨n, rfl⟩ := Int.eq_ofNat_of_zero_le hz0
    have hn : n ≤ 4503599627370496 := by
      rw [pw52] at h6
      exact cast_le.1 h6
    obtain ⟨q, q1, q2⟩ := rep_yes (M := n) (E := -852) (by omega) (by decide) (by decide)
    have hx := IsRnd.exact q1
    rw [q2] at hx
    have := h.unique hx
    rw [this, q2]
    exact ⟨(n : Int), rfl⟩

theorem sumSg_pw {s t : Bool} {x : Rat} {k : Int} : sumSg s t (x * pw k) = sumSg s t x := by
  have hp := pw_pos k
  unfold sumSg
  by_cases h : x = 0
  · rw [h, Rat.zero_mul]
  · have h2 : x * pw k ≠ 0 := fun h3 => h (pwk_cancel (k := k) (by rw [h3, Rat.zero_mul]))
    rw [if_neg h, if_neg h2, decide_eq_decide]
    constructor
    · intro h4
      rcases (@Rat.le_total 0 x) with h5 | h5
      · have := Rat.mul_nonneg h5 (Rat.le_of_lt hp); grind
      · exact Rat.lt_of_le_of_ne h5 h
    · intro h4
      have := Rat.mul_lt_mul_of_pos_right h4 hp
      rwa [Rat.zero_mul] at this
theorem ab_pwk {x : Rat} {k : Int} : ab (x * pw k) = ab x * pw k := by rw [ab_mul, ab_pw]

theorem fadd_lat {a b : Nat} (ha : fin a) (hb : fin b) (la : Lat (fv a)) (lb : Lat (fv b)) (h : ab (fv a + fv b) ≤ pw 900) : Lat (fv (fadd a b)) := by
  obtain ⟨r, m1, m2⟩ := add_spec ha hb
  have hI := INF_eq
  have hr : r < INF := (rnd_le m2 h (rep_pw1 (by decide) (by decide))).1
  have e : fadd a b = D.word (sumSg (sg a) (sg b) (fv a + fv b)) r := by unfold fadd; rw [m1]; rfl
  rw [e]
  unfold fv
  rw [rg_word _ _ m2.lt63]
  exact (lat_rnd m2 (la.add lb).abs (ab_nonneg _) hr).sv _
theorem sk_add {a b c d : Nat} {k : Int} (h1 : Sk a k c) (h2 : Sk b k d) (la : Lat (fv a)) (lb : Lat (fv b)) (lc : Lat (fv c)) (ld : Lat (fv d)) (u : ab (fv a + fv b) ≤ pw 900) (v : ab (fv c + fv d) ≤ pw 900) : Sk (fadd a b) k (fadd c d) := by
  obtain ⟨r, m1, m2⟩ := add_spec h1.fx h2.fx
  obtain ⟨r', n1, n2⟩ := add_spec h1.fy h2.fy
  have hs : fv c + fv d = (fv a + fv b) * pw k := by rw [h1.fv, h2.fv, Rat.add_mul]
  have e1 : fadd a b = D.word (sumSg (sg a) (sg b) (fv a + fv b)) r := by unfold fadd; rw [m1]; rfl
  have e2 : fadd c d = D.word (sumSg (sg a) (sg b) (fv a + fv b)) r' := by
    unfold fadd; rw [n1, h1.sign, h2.sign, hs, sumSg_pw]; rfl
  have hx : ab (fv c + fv d) = ab (fv a + fv b) * pw k := by rw [hs, ab_pwk]
  rw [e1, e2]
  rw [hx] at n2
  refine rnd_sk m2 n2 ?_
  by_cases h0 : ab (fv a + fv b) = 0
  · exact .inl h0
  · right
    have p1 := (la.add lb).abs.nz (ab_nonneg _) h0
    have h0' : ab (fv c + fv d) ≠ 0 := fun hh => h0 (pwk_cancel (k := k) (by rw [← hx, hh, Rat.zero_mul]))
    have p2 := (lc.add ld).abs.nz (ab_nonneg _) h0'
    rw [← hx]
    have q : pw (-900) ≤ pw (-852) := pw_le (by decide)
    exact ⟨Rat.le_trans q p1, u, Rat.le_trans q p2, v⟩

theorem sum_room {t : Nat → Nat} {E : Int} (h1 : -1074 ≤ E) (h2 : E ≤ 800) {j : Nat} (hj : j < 1000) (ht : ∀ i, i < j + 1 → fin (t i) ∧ ab (fv (t i)) ≤ pw E) : ab (fv (sumT t j) + fv (t j)) ≤ pw 900 := by
  obtain ⟨_, a2, _⟩ := sumT_bd h1 (by omega) j (by omega) (fun i hi => ht i (by omega))
  obtain ⟨_, b2⟩ := ht j (by omega)
  have h3 : ab (fv (sumT t j) + fv (t j)) ≤ (j : Rat) * pw E + pw E := by have := ab_add (fv (sumT t j)) (fv (t j)); grind
  have h4 : (j : Rat) * pw E + pw E = ((j + 1 : Nat) : Rat) * pw E := by
    rw [show ((j + 1 : Nat) : Rat) = (j : Rat) + 1 from by rw [Rat.natCast_add]; rfl, Rat.add_mul, Rat.one_mul]
  rw [h4] at h3
  have h5 : ((j + 1 : Nat) : Rat) ≤ pw 10 := by
    rw [show (10 : Int) = ((10 : Nat) : Int) from rfl, pw_nat]; exact cast_le.2 (by omega)
  have h6 := Rat.mul_le_mul_of_nonneg_right h5 (Rat.le_of_lt (pw_pos E))
  rw [← pw_add] at h6
  exact Rat.le_trans h3 (Rat.le_trans h6 (pw_le (by omega)))

/-- Sums, scaled. -/
theorem sk_sum {t u : Nat → Nat} {k E : Int} (h1 : -1074 ≤ E) (h2 : E ≤ 800) : ∀ j : Nat, j ≤ 1000 →
    (∀ i, i < j → Sk (t i) k (u i) ∧ ab (fv (t i)) ≤ pw E ∧ ab (fv (u i)) ≤ pw E ∧ Lat (fv (t i)) ∧ Lat (fv (u i))) →
    Sk (sumT t j) k (sumT u j) ∧ Lat (fv (sumT t j)) ∧ Lat (fv (sumT u j)) := by
  intro j
  induction j with
  | zero =>
    intro _ _
    have hz : Lat (fv 0) := by
      have : fv 0 = 0 := by unfold fv; rw [show sg 0 = false from by decide, show rg 0 = 0 from by decide, rm_zero]; show ((0 : Nat) : Rat) * _ = 0; rw [show ((0 : Nat) : Rat) = 0 from rfl, Rat.zero_mul]
      rw [this]; exact Lat.zero
    have hs : Sk 0 k 0 := by have := zero_sk (s := false) (k := k); rwa [word_false] at this
    exact ⟨hs, hz, hz⟩
  | succ j ih =>
    intro hj ht
    obtain ⟨s1, s2, s3⟩ := ih (by omega) (fun i hi => ht i (by omega))
    obtain ⟨t1, t2, t3, t4, t5⟩ := ht j (by omega)
    have r1 := sum_room (t := t) h1 h2 (j := j) (by omega) (fun i hi => ⟨(ht i hi).1.fx, (ht i hi).2.1⟩)
    have r2 := sum_room (t := u) h1 h2 (j := j) (by omega) (fun i hi => ⟨(ht i hi).1.fy, (ht i hi).2.2.1⟩)
    exact ⟨sk_add s1 t1 s2 t4 s3 t5 r1 r2, fadd_lat s1.fx t1.fx s2 t4 r1, fadd_lat s1.fy t1.fy s3 t5 r2⟩

end Lev
