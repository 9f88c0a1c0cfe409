/- The five operations on floats: what value each result has, and of which sign. -/
import Derived.Test.YtcoaachajdomcaaFa
namespace Lev
open Ieee

/-- Of a word: has it a sign? -/
def sg (b : Nat) : Bool := b / 9223372036854775808 % 2 == 1
/-- Of a word: its rung. -/
def rg (b : Nat) : Nat := b % 9223372036854775808
/-- Of a word: is it a number? -/
def fin (b : Nat) : Prop := rg b < INF
instance (b : Nat) : Decidable (fin b) := inferInstanceAs (Decidable (_ < _))

/-- A size with a sign. -/
def sv (s : Bool) (x : Rat) : Rat := if s then -x else x
/-- The value of a word that is a number. -/
def fv (b : Nat) : Rat := sv (sg b) ((rm (rg b) : Rat) * pw (-1074))

theorem sv_false (x : Rat) : sv false x = x := rfl
theorem sv_true (x : Rat) : sv true x = -x := rfl
theorem sv_not (s : Bool) (x : Rat) : sv (!s) x = - sv s x := by cases s <;> simp [sv]
theorem sv_mul (s t : Bool) (x y : Rat) : sv s x * sv t y = sv (s ^^ t) (x * y) := by
  cases s <;> cases t <;> simp only [sv, Bool.xor_false, Bool.xor_true, Bool.not_false, Bool.not_true, if_true, Bool.false_eq_true, if_false] <;> grind

theorem sg_word (s : Bool) (r : Nat) (h : r < 9223372036854775808) : sg (D.word s r) = s := by
  unfold sg Format.word
  rw [D_sign]
  cases s
  · simp only [Bool.false_eq_true, if_false]
    have : r / 9223372036854775808 = 0 := Nat.div_eq_of_lt h
    rw [this]; rfl
  · simp only [if_true]
    have : (9223372036854775808 + r) / 9223372036854775808 = 1 := by omega
    rw [this]; rfl
theorem rg_word (s : Bool) (r : Nat) (h : r < 9223372036854775808) : rg (D.word s r) = r := by
  unfold rg Format.word
  rw [D_sign]
  cases s
  · simp only [Bool.false_eq_true, if_false]; omega
  · simp only [if_true]; omega
theorem word_sg_rg (b : Nat) (h : b < 18446744073709551616) : D.word (sg b) (rg b) = b := by
  unfold Format.word rg
  rw [D_sign]
  by_cases hs : sg b = true
  · rw [if_pos hs]
    unfold sg at hs
    simp only [beq_iff_eq] at hs
    omega
  · rw [if_neg hs]
    unfold sg at hs
    simp only [beq_iff_eq] at hs
    omega
theorem word_lt64 (s : Bool) (r : Nat) (h : r < 9223372036854775808) : D.word s r < 18446744073709551616 := by
  unfold Format.word; rw [D_sign]; split <;> omega
theorem eq_of_sg_rg {a b : Nat} (ha : a < 18446744073709551616) (hb : b < 18446744073709551616) (h1 : sg a = sg b) (h2 : rg a = rg b) : a = b := by
  rw [← word_sg_rg a ha, ← word_sg_rg b hb, h1, h2]
theorem rg_lt (b : Nat) : rg b < 9223372036854775808 := Nat.mod_lt _ (by decide)

theorem read_eq (b : Nat) : D.read b = if rg b < 4503599627370496 then .number (sg b) (rg b) (-1074)
    else if rg b < INF then .number (sg b) (4503599627370496 + rg b % 4503599627370496) (-1074 + (rg b / 4503599627370496 - 1 : Nat))
    else if rg b = INF then .infinity (sg b) else .nan (sg b) (rg b - INF) := by
  unfold Format.read
  rw [D_binade, D_inf, D_least, D_sign]
  rfl

theorem read_fin {b : Nat} (h : fin b) : ∃ m p, D.read b = .number (sg b) m p ∧ (m : Rat) * pw p = (rm (rg b) : Rat) * pw (-1074) ∧ (m = 0 ↔ rg b = 0) := by
  rw [read_eq]
  unfold fin at h
  by_cases h1 : rg b < 4503599627370496
  · rw [if_pos h1]
    refine ⟨_, _, rfl, ?_, Iff.rfl⟩
    unfold rm; rw [if_pos h1]
  · rw [if_neg h1, if_pos h]
    refine ⟨_, _, rfl, ?_, by omega⟩
    unfold rm; rw [if_neg h1, Rat.natCast_mul, ← pw_nat, pw_add]
    grind
theorem read_inf {b : Nat} (h : rg b = INF) : D.read b = .infinity (sg b) := by
  have hI := INF_eq
  rw [read_eq, if_neg (by omega), if_neg (by omega), if_pos h]
theorem read_nan {b : Nat} (h : INF < rg b) : ∃ t, D.read b = .nan (sg b) t := by
  have hI := INF_eq
  rw [read_eq, if_neg (by omega), if_neg (by omega), if_neg (by omega)]
  exact ⟨_, rfl⟩

theorem IsRnd.zero : IsRnd 0 0 := by
  have h : (mid2 0 : Rat) * pw (-1074) = pw (-1074) := by
    have : mid2 0 = 1 := by decide
    rw [this]; exact Rat.one_mul _
  refine ⟨by decide, fun _ => ?_, fun h0 => absurd h0 (by decide)⟩
  rw [h]
  have := pw_pos (-1074)
  exact ⟨by grind, fun _ => rfl⟩
theorem IsRnd.zero_eq {r : Nat} (h : IsRnd 0 r) : r = 0 := h.unique .zero

theorem write_spec (neg : Bool) (m : Nat) (p : Int) : ∃ r, D.write (.number neg m p) = D.word neg r ∧ IsRnd ((m : Rat) * pw p) r := by
  unfold Format.write
  simp only
  by_cases hm : m = 0
  · subst hm
    refine ⟨0, by simp [Format.nearest], ?_⟩
    have : ((0 : Nat) : Rat) * pw p = 0 := Rat.zero_mul _
    rw [this]; exact .zero
  · exact nearest_spec neg m p (by omega)

theorem IsRnd.le {x : Rat} {r : Nat} (h : IsRnd x r) : r ≤ INF := h.1
theorem IsRnd.lt63 {x : Rat} {r : Nat} (h : IsRnd x r) : r < 9223372036854775808 := Nat.lt_of_le_of_lt h.1 (by decide)

theorem cast_shift (m u : Nat) : ((m <<< u : Nat) : Rat) = (m : Rat) * pw u := by
  rw [Nat.shiftLeft_eq, Rat.natCast_mul, ← pw_nat]

theorem cast_signed (s : Bool) (m u : Nat) : ((signed s m u : Int) : Rat) = sv s ((m : Rat) * pw u) := by
  unfold signed sv
  cases s
  · simp only [Bool.false_eq_true, if_false]
    rw [Rat.intCast_natCast, cast_shift]
  · simp only [if_true]
    rw [Rat.intCast_neg, Rat.intCast_natCast, cast_shift]

theorem sv_scale (s : Bool) (x y : Rat) : sv s x * y = sv s (x * y) := by cases s <;> simp only [sv, if_true, Bool.false_eq_true, if_false] <;> grind

theorem natAbs_cast (t : Int) : ((t.natAbs : Nat) : Rat) = (if t < 0 then -(t : Rat) else (t : Rat)) := by
  split
  · have : (t.natAbs : Int) = -t := by omega
    rw [← Rat.intCast_natCast, this, Rat.intCast_neg]
  · have : (t.natAbs : Int) = t := by omega
    rw [← Rat.intCast_natCast, this]

/-- The size of a number. -/
def ab (x : Rat) : Rat := if x < 0 then -x else x
theorem ab_nonneg (x : Rat) : 0 ≤ ab x := by unfold ab; split <;> grind
theorem ab_neg (x : Rat) : ab (-x) = ab x := by unfold ab; split <;> split <;> grind
theorem ab_mul (x y : Rat) : ab (x * y) = ab x * ab y := by
  have key : ∀ a b : Rat, 0 ≤ a → 0 ≤ b → 0 ≤ a * b := fun a b => Rat.mul_nonneg
  unfold ab
  by_cases hx : x < 0 <;> by_cases hy : y < 0
  · have := key (-x) (-y) (by grind) (by grind)
    rw [if_pos hx, if_pos hy, if_neg (by grind)]; grind
  · have := key (-x) y (by grind) (by grind)
    rw [if_pos hx, if_neg hy]
    by_cases h0 : x * y < 0
    · rw [if_pos h0]; grind
    · rw [if_neg h0]; grind
  · have := key x (-y) (by grind) (by grind)
    rw [if_neg hx, if_pos hy]
    by_cases h0 : x * y < 0
    · rw [if_pos h0]; grind
    · rw [if_neg h0]; grind
  · have := key x y (by grind) (by grind)
    rw [if_neg hx, if_neg hy, if_neg (by grind)]

/-- What a sum of two read numbers comes to. -/
theorem sum_spec (s t : Bool) (m n : Nat) (i j : Int) : ∃ r, (Datum.sum (.number s m i) (.number t n j)).map D.write = some (D.word (if sv s ((m : Rat) * pw i) + sv t ((n : Rat) * pw j) = 0 then s && t else decide (sv s ((m : Rat) * pw i) + sv t ((n : Rat) * pw j) < 0)) r) ∧
    IsRnd (ab (sv s ((m : Rat) * pw i) + sv t ((n : Rat) * pw j))) r := by
  unfold Datum.sum
  simp only
  generalize htot : signed s m (i - min i j).toNat + signed t n (j - min i j).toNat = tot
  have hval : (tot : Rat) * pw (min i j) = sv s ((m : Rat) * pw i) + sv t ((n : Rat) * pw j) := by
    rw [← htot, Rat.intCast_add, cast_signed, cast_signed, Rat.add_mul, sv_scale, sv_scale, Rat.mul_assoc, Rat.mul_assoc, ← pw_add, ← pw_add]
    have h1 : ((i - min i j).toNat : Int) + min i j = i := by omega
    have h2 : ((j - min i j).toNat : Int) + min i j = j := by omega
    rw [h1, h2]
  rw [← hval]
  obtain ⟨r, hr1, hr2⟩ := write_spec (if tot = 0 then s && t else decide (tot < 0)) tot.natAbs (min i j)
  have hp := pw_pos (min i j)
  have hz : ((tot : Rat) * pw (min i j) = 0) ↔ tot = 0 := by
    rw [Rat.mul_eq_zero]
    constructor
    · rintro (h | h)
      · exact Rat.intCast_eq_zero_iff.1 h
      · exact absurd h (pw_ne _)
    · intro h; exact .inl (Rat.intCast_eq_zero_iff.2 h)
  have hn : ((tot : Rat) * pw (min i j) < 0) ↔ tot < 0 := by
    constructor
    · intro h
      by_cases h0 : tot < 0
      · exact h0
      · exfalso
        have h1 : (0 : Rat) ≤ (tot : Rat) := Rat.intCast_nonneg.2 (by omega)
        have := Rat.mul_nonneg h1 (Rat.le_of_lt hp)
        grind
    · intro h
      have h1 : (0 : Rat) < ((-tot : Int) : Rat) := Rat.intCast_pos.2 (by omega)
      have h2 := Rat.mul_pos h1 hp
      rw [Rat.intCast_neg] at h2
      grind
  refine ⟨r, ?_, ?_⟩
  · simp only [Option.map_some, Option.some.injEq]
    have e1 : (if (tot : Rat) * pw (min i j) = 0 then s && t else decide ((tot : Rat) * pw (min i j) < 0)) = (if tot = 0 then s && t else decide (tot < 0)) := by
      by_cases h0 : tot = 0
      · rw [if_pos h0, if_pos (hz.2 h0)]
      · rw [if_neg h0, if_neg (fun h => h0 (hz.1 h))]
        rw [decide_eq_decide]; exact hn
    rw [e1]; exact hr1
  · have e2 : ab ((tot : Rat) * pw (min i j)) = ((tot.natAbs : Nat) : Rat) * pw (min i j) := by
      rw [ab_mul, natAbs_cast]
      have h1 : ab (pw (min i j)) = pw (min i j) := by unfold ab; rw [if_neg (by grind)]
      rw [h1]
      congr 1
      unfold ab
      by_cases h0 : tot < 0
      · rw [if_pos h0, if_pos (Rat.intCast_neg_iff.2 h0)]
      · rw [if_neg h0, if_neg (fun h => h0 (Rat.intCast_neg_iff.1 h))]
    rw [e2]; exact hr2

/-- The sign of a sum. -/
def sumSg (s t : Bool) (x : Rat) : Bool := if x = 0 then s && t else decide (x < 0)

theorem fv_read {b : Nat} (h : fin b) : ∃ m p, D.read b = .number (sg b) m p ∧ sv (sg b) ((m : Rat) * pw p) = fv b := by
  obtain ⟨m, p, h1, h2, _⟩ := read_fin h
  exact ⟨m, p, h1, by rw [h2]; rfl⟩

theorem add_spec {a b : Nat} (ha : fin a) (hb : fin b) : ∃ r, D.add a b = some (D.word (sumSg (sg a) (sg b) (fv a + fv b)) r) ∧ IsRnd (ab (fv a + fv b)) r := by
  obtain ⟨m, i, h1, h2⟩ := fv_read ha
  obtain ⟨n, j, h3, h4⟩ := fv_read hb
  unfold Format.add
  rw [h1, h3, ← h2, ← h4]
  exact sum_spec ..

theorem sub_spec {a b : Nat} (ha : fin a) (hb : fin b) : ∃ r, D.sub a b = some (D.word (sumSg (sg a) (!sg b) (fv a - fv b)) r) ∧ IsRnd (ab (fv a - fv b)) r := by
  obtain ⟨m, i, h1, h2⟩ := fv_read ha
  obtain ⟨n, j, h3, h4⟩ := fv_read hb
  unfold Format.sub
  have e : fv a - fv b = sv (sg a) ((m : Rat) * pw i) + sv (!sg b) ((n : Rat) * pw j) := by rw [sv_not, h2, h4]; grind
  rw [h1, h3, e]
  exact sum_spec ..

theorem mul_spec {a b : Nat} (ha : fin a) (hb : fin b) : ∃ r, D.mul a b = some (D.word (sg a ^^ sg b) r) ∧ IsRnd (ab (fv a * fv b)) r := by
  obtain ⟨m, i, h1, h2, _⟩ := read_fin ha
  obtain ⟨n, j, h3, h4, _⟩ := read_fin hb
  unfold Format.mul
  rw [h1, h3]
  unfold Datum.product
  simp only [Option.map_some, Option.some.injEq]
  obtain ⟨r, hr1, hr2⟩ := write_spec (sg a ^^ sg b) (m * n) (i + j)
  refine ⟨r, hr1, ?_⟩
  have e : ab (fv a * fv b) = ((m * n : Nat) : Rat) * pw (i + j) := by
    unfold fv
    rw [sv_mul, ← h2, ← h4, Rat.natCast_mul, pw_add]
    have hnn : 0 ≤ (m : Rat) * pw i * ((n : Rat) * pw j) := by
      apply Rat.mul_nonneg <;> exact Rat.mul_nonneg Rat.natCast_nonneg (Rat.le_of_lt (pw_pos _))
    have : ∀ s, ab (sv s ((m : Rat) * pw i * ((n : Rat) * pw j))) = (m : Rat) * pw i * ((n : Rat) * pw j) := by
      intro s
      cases s
      · rw [sv_false]; unfold ab; rw [if_neg (by grind)]
      · rw [sv_true, ab_neg]; unfold ab; rw [if_neg (by grind)]
    rw [this]
    grind
  rw [e]; exact hr2

/-! Quotients and roots are told to some digits and one more: that rounds as the number itself. -/

/-- A midpoint that is great enough is a whole number of units 2^P. -/
theorem mid_whole (r : Nat) (P : Int) (h : pw (53 + P) ≤ (mid2 r : Rat) * pw (-1075)) : ∃ j : Nat, (mid2 r : Rat) * pw (-1075) = (j : Rat) * pw P := by
  obtain ⟨e, k, rfl, hs, hk⟩ := rung_seg r
  rw [mid2_seg e k hs hk] at h ⊢
  rw [Rat.natCast_mul, ← pw_nat, Rat.mul_assoc, ← pw_add] at h ⊢
  have hle : P ≤ (e : Int) + -1075 := by
    rcases Int.lt_or_le ((e : Int) + -1075) P with hlt | hge
    · exfalso
      have h1 : (((2 * k + 1 : Nat)) : Rat) < pw 54 := by
        have h2 : pw 54 = ((18014398509481984 : Nat) : Rat) := by rw [show (54 : Int) = ((54 : Nat) : Int) from rfl, pw_nat]
        rw [h2]; exact cast_lt.2 (by omega)
      have h3 : (((2 * k + 1 : Nat)) : Rat) * pw ((e : Int) + -1075) < pw 54 * pw ((e : Int) + -1075) := Rat.mul_lt_mul_of_pos_right h1 (pw_pos _)
      rw [← pw_add] at h3
      obtain ⟨d, hd⟩ : ∃ d : Nat, 53 + P = (54 + ((e : Int) + -1075)) + d := ⟨(53 + P - (54 + ((e : Int) + -1075))).toNat, by omega⟩
      rw [hd, pw_add, pw_nat] at h
      have h4 : (1 : Rat) ≤ ((2 ^ d : Nat) : Rat) := by
        have : ((1 : Nat) : Rat) ≤ ((2 ^ d : Nat) : Rat) := cast_le.2 (Nat.two_pow_pos d)
        simpa using this
      have h5 := Rat.mul_le_mul_of_nonneg_left h4 (Rat.le_of_lt (pw_pos (54 + ((e : Int) + -1075))))
      grind
    · exact hge
  obtain ⟨d, hd⟩ : ∃ d : Nat, (e : Int) + -1075 = (d : Int) + P := ⟨((e : Int) + -1075 - P).toNat, by omega⟩
  refine ⟨(2 * k + 1) * 2 ^ d, ?_⟩
  rw [hd, pw_add, Rat.natCast_mul, ← pw_nat]
  grind

theorem half_unit : pw (-1074) = 2 * pw (-1075) := by
  have h : pw (-1074) = pw (1 + -1075) := by congr 1
  have h1 : pw 1 = 2 := Rat.zpow_one 2
  rw [h, pw_add, h1]

/-- The number whose q digits and one more are told is rounded as what is told. -/
theorem sticky (q : Nat) (P : Int) (x y : Rat) (r : Nat) (hq : 9007199254740992 ≤ q) (hx1 : (q : Rat) * pw P ≤ x) (hx2 : x < ((q : Rat) + 1) * pw P)
    (hy1 : (q : Rat) * pw P ≤ y) (hy2 : y < ((q : Rat) + 1) * pw P) (hxy : x = (q : Rat) * pw P ↔ y = (q : Rat) * pw P) (h : IsRnd y r) : IsRnd x r := by
  have hq' : pw (53 + P) ≤ (q : Rat) * pw P := by
    rw [pw_add]
    have h2 : pw 53 = ((9007199254740992 : Nat) : Rat) := by rw [show (53 : Int) = ((53 : Nat) : Int) from rfl, pw_nat]
    rw [h2]; exact Rat.mul_le_mul_of_nonneg_right (cast_le.2 hq) (Rat.le_of_lt (pw_pos _))
  have hp := pw_pos P
  -- against any midpoint both stand alike
  have key : ∀ s : Nat, ((mid2 s : Rat) * pw (-1075) ≤ y ↔ (mid2 s : Rat) * pw (-1075) ≤ x) ∧ (y ≤ (mid2 s : Rat) * pw (-1075) ↔ x ≤ (mid2 s : Rat) * pw (-1075)) := by
    intro s
    by_cases hc : (mid2 s : Rat) * pw (-1075) < (q : Rat) * pw P
    · constructor <;> constructor <;> intro _ <;> grind
    · obtain ⟨j, hj⟩ := mid_whole s P (by grind)
      rw [hj] at hc ⊢
      have hqj : q ≤ j := by
        have : (q : Rat) * pw P ≤ (j : Rat) * pw P := by grind
        exact cast_le.1 (Rat.le_of_mul_le_mul_right this hp)
      rcases Nat.lt_or_ge q j with h1 | h1
      · have h2 : ((q : Rat) + 1) * pw P ≤ (j : Rat) * pw P := by
          have h3 : ((q + 1 : Nat) : Rat) ≤ (j : Rat) := cast_le.2 h1
          rw [Rat.natCast_add] at h3
          exact Rat.mul_le_mul_of_nonneg_right h3 (Rat.le_of_lt hp)
        constructor <;> constructor <;> intro _ <;> grind
      · have : j = q := by omega
        subst this
        constructor
        · constructor <;> intro _ <;> grind
        · constructor
          · intro h0
            have : y = (j : Rat) * pw P := Rat.le_antisymm h0 hy1
            have := hxy.2 this
            grind
          · intro h0
            have : x = (j : Rat) * pw P := Rat.le_antisymm h0 hx1
            have := hxy.1 this
            grind
  obtain ⟨a, b, c⟩ := h
  refine ⟨a, fun h0 => ?_, fun h0 => ?_⟩
  · obtain ⟨b1, b2⟩ := b h0
    obtain ⟨k1, k2⟩ := key r
    rw [half_unit] at b1 b2 ⊢
    refine ⟨by have := k2.1 (by grind); grind, fun heq => b2 ?_⟩
    have e1 : (mid2 r : Rat) * pw (-1075) ≤ x := by grind
    have := k1.2 e1
    grind
  · obtain ⟨b1, b2⟩ := c h0
    obtain ⟨k1, k2⟩ := key (r - 1)
    rw [half_unit] at b1 b2 ⊢
    refine ⟨by have := k1.1 (by grind); grind, fun heq => b2 ?_⟩
    have e1 : x ≤ (mid2 (r - 1) : Rat) * pw (-1075) := by grind
    have := k2.2 e1
    grind

theorem two_cast : ((2 : Nat) : Rat) = 2 := rfl

/-- What is told of q digits and one more: '2q + st' at half a unit. -/
theorem told_eq (q : Nat) (st : Bool) (P : Int) : ((2 * q + st.toNat : Nat) : Rat) * pw (P - 1) = ((q : Rat) + (if st then (1 / 2 : Rat) else 0)) * pw P := by
  have h1 : pw P = 2 * pw (P - 1) := by
    have h : pw P = pw (1 + (P - 1)) := by congr 1; omega
    have h1 : pw 1 = 2 := Rat.zpow_one 2
    rw [h, pw_add, h1]
  rw [h1, Rat.natCast_add, Rat.natCast_mul, two_cast]
  cases st
  · simp only [Bool.toNat_false, Bool.false_eq_true, if_false]
    have : ((0 : Nat) : Rat) = 0 := rfl
    rw [this]; grind
  · simp only [Bool.toNat_true, if_true]
    have : ((1 : Nat) : Rat) = 1 := rfl
    rw [this]; grind

theorem quotient_spec (s t : Bool) (m n : Nat) (i j : Int) (hm : 0 < m) (hn : 0 < n) : ∃ r, (Datum.quotient 54 (.number s m i) (.number t n j)).map D.write = some (D.word (s ^^ t) r) ∧
    IsRnd ((m : Rat) * pw i / ((n : Rat) * pw j)) r := by
  unfold Datum.quotient
  simp only
  rw [if_neg (by omega)]
  simp only [Option.map_some, Option.some.injEq]
  generalize hmore : 54 + n.log2 - m.log2 = more
  rw [Nat.shiftLeft_eq]
  generalize hdiv : m * 2 ^ more = dv
  obtain ⟨r, hr1, hr2⟩ := write_spec (s ^^ t) (2 * (dv / n) + (dv % n != 0).toNat) (i - j - more - 1)
  refine ⟨r, hr1, ?_⟩
  rw [told_eq] at hr2
  have hdm := Nat.div_add_mod dv n
  have hml := Nat.mod_lt dv hn
  have hnr : (0 : Rat) < (n : Rat) := Rat.natCast_pos.2 hn
  have hq : 9007199254740992 ≤ dv / n := by
    rw [Nat.le_div_iff_mul_le hn]
    have h1 : 2 ^ m.log2 ≤ m := Nat.log2_self_le (by omega)
    have h2 : n < 2 ^ (n.log2 + 1) := Nat.lt_log2_self
    have h3 : 2 ^ (m.log2 + more) ≤ dv := by rw [← hdiv, Nat.pow_add]; exact Nat.mul_le_mul_right _ h1
    have h4 : 9007199254740992 * n ≤ 2 ^ 53 * 2 ^ (n.log2 + 1) := Nat.mul_le_mul (by decide) (Nat.le_of_lt h2)
    rw [← Nat.pow_add] at h4
    have h5 : 2 ^ (53 + (n.log2 + 1)) ≤ 2 ^ (m.log2 + more) := Nat.pow_le_pow_right (by decide) (by omega)
    omega
  -- the quotient
  have hx : (m : Rat) * pw i / ((n : Rat) * pw j) = (dv : Rat) / (n : Rat) * pw (i - j - more) := by
    have hdv : (dv : Rat) = (m : Rat) * pw more := by rw [← hdiv, Rat.natCast_mul, pw_nat]
    have hi : pw i = pw (i - j - more) * pw more * pw j := by rw [← pw_add, ← pw_add]; congr 1; omega
    rw [hdv, hi]
    have hj := pw_ne j
    have hn0 : (n : Rat) ≠ 0 := fun h => by rw [h] at hnr; exact absurd hnr (by decide)
    grind
  rw [hx]
  have hp := pw_pos (i - j - more)
  generalize hP : i - j - (more : Int) = P at *
  have hdr : (dv : Rat) = (n : Rat) * ((dv / n : Nat) : Rat) + ((dv % n : Nat) : Rat) := by
    rw [← Rat.natCast_mul, ← Rat.natCast_add, hdm]
  have hquo : (dv : Rat) / (n : Rat) = ((dv / n : Nat) : Rat) + ((dv % n : Nat) : Rat) / (n : Rat) := by
    rw [hdr]
    have hn0 : (n : Rat) ≠ 0 := fun h => by rw [h] at hnr; exact absurd hnr (by decide)
    grind
  have hfr0 : 0 ≤ ((dv % n : Nat) : Rat) / (n : Rat) := by
    rw [Rat.div_def]
    exact Rat.mul_nonneg Rat.natCast_nonneg (Rat.le_of_lt (Rat.inv_pos.2 hnr))
  have hfr1 : ((dv % n : Nat) : Rat) / (n : Rat) < 1 := by
    rw [Rat.div_lt_iff hnr, Rat.one_mul]; exact cast_lt.2 hml
  have hfrz : ((dv % n : Nat) : Rat) / (n : Rat) = 0 ↔ dv % n = 0 := by
    constructor
    · intro h
      have hn0 : (n : Rat) ≠ 0 := fun h => by rw [h] at hnr; exact absurd hnr (by decide)
      have : ((dv % n : Nat) : Rat) = 0 := by
        have h1 := Rat.div_mul_cancel (a := ((dv % n : Nat) : Rat)) hn0
        rw [h, Rat.zero_mul] at h1
        exact h1.symm
      exact Rat.natCast_eq_zero_iff.1 this
    · intro h; rw [h, Rat.div_def]; exact Rat.zero_mul _
  rw [hquo]
  generalize ((dv % n : Nat) : Rat) / (n : Rat) = fr at *
  have mlt : ∀ a b : Rat, a < b → a * pw P < b * pw P := fun a b h => Rat.mul_lt_mul_of_pos_right h hp
  have mle : ∀ a b : Rat, a ≤ b → a * pw P ≤ b * pw P := fun a b h => Rat.mul_le_mul_of_nonneg_right h (Rat.le_of_lt hp)
  refine sticky (dv / n) P _ _ r hq (mle _ _ (by grind)) (mlt _ _ (by grind)) (mle _ _ ?_) (mlt _ _ ?_) ?_ hr2
  · split <;> grind
  · split <;> grind
  · by_cases hst : dv % n = 0
    · have e0 := hfrz.2 hst
      rw [e0, hst]
      simp
    · have e0 : fr ≠ 0 := fun h => hst (hfrz.1 h)
      have : (dv % n != 0) = true := by simp [hst]
      rw [this]
      simp only [if_true]
      constructor
      · intro h
        have := mlt ((dv / n : Nat) : Rat) (((dv / n : Nat) : Rat) + fr) (by grind)
        grind
      · intro h
        have := mlt ((dv / n : Nat) : Rat) (((dv / n : Nat) : Rat) + 1 / 2) (by grind)
        grind

theorem ab_sv (s : Bool) (x : Rat) (h : 0 ≤ x) : ab (sv s x) = x := by
  cases s
  · rw [sv_false]; unfold ab; rw [if_neg (by grind)]
  · rw [sv_true, ab_neg]; unfold ab; rw [if_neg (by grind)]
theorem ab_fv (b : Nat) : ab (fv b) = (rm (rg b) : Rat) * pw (-1074) := by
  unfold fv; exact ab_sv _ _ (Rat.mul_nonneg Rat.natCast_nonneg (Rat.le_of_lt (pw_pos _)))

theorem div_spec {a b : Nat} (ha : fin a) (hb : fin b) (h0 : rg b ≠ 0) : ∃ r, D.div a b = some (D.word (sg a ^^ sg b) r) ∧ IsRnd (ab (fv a) / ab (fv b)) r := by
  obtain ⟨m, i, h1, h2, hz1⟩ := read_fin ha
  obtain ⟨n, j, h3, h4, hz2⟩ := read_fin hb
  unfold Format.div
  rw [h1, h3, D_fb, ab_fv, ab_fv, ← h2, ← h4]
  have hn : 0 < n := by
    rcases Nat.eq_zero_or_pos n with h | h
    · exact absurd (hz2.1 h) h0
    · exact h
  by_cases hm : m = 0
  · subst hm
    unfold Datum.quotient
    simp only
    rw [if_neg (by omega)]
    simp only [Option.map_some, Option.some.injEq]
    rw [Nat.zero_shiftLeft, Nat.zero_div, Nat.zero_mod]
    obtain ⟨r, hr1, hr2⟩ := write_spec (sg a ^^ sg b) (2 * 0 + (0 != 0 : Bool).toNat) (i - j - ((52 + 2 + n.log2 - Nat.log2 0 : Nat) : Int) - 1)
    refine ⟨r, hr1, ?_⟩
    have e1 : ((2 * 0 + (0 != 0 : Bool).toNat : Nat) : Rat) * pw (i - j - ((52 + 2 + n.log2 - Nat.log2 0 : Nat) : Int) - 1) = 0 := Rat.zero_mul _
    have e2 : ((0 : Nat) : Rat) * pw i / ((n : Rat) * pw j) = 0 := by
      have : ((0 : Nat) : Rat) = 0 := rfl
      rw [this, Rat.zero_mul, Rat.div_def, Rat.zero_mul]
    rw [e1] at hr2
    rw [e2]; exact hr2
  · exact quotient_spec _ _ m n i j (by omega) hn

end Lev
