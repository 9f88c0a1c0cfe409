/- Words and their parts: signs, exponents and fractions by bit operations; how any two words stand to each other; what a float is made of. -/
import Derived.Test.YtcoaachajdomcaaFc
import Derived.Laws.BitsAllLaws
import Derived.IntWalk
namespace Lev
open Ieee Go

theorem sg_lt {b : Nat} (hb : b < 18446744073709551616) : sg b = decide (9223372036854775808 ≤ b) := by
  unfold sg
  by_cases h : 9223372036854775808 ≤ b
  · have : b / 9223372036854775808 % 2 = 1 := by omega
    rw [this]; simp [h]
  · have : b / 9223372036854775808 % 2 = 0 := by omega
    rw [this]; simp [h]

/-- The word of a sign and a rung, as a sum. -/
theorem word_eq (s : Bool) (r : Nat) : D.word s r = s.toNat * 9223372036854775808 + r := by
  unfold Format.word
  rw [D_sign]
  cases s
  · simp
  · simp

theorem and63 (x : Nat) : x &&& 9223372036854775807 = x % 9223372036854775808 := Nat.and_two_pow_sub_one_eq_mod x 63
theorem and52 (x : Nat) : x &&& 4503599627370495 = x % 4503599627370496 := Nat.and_two_pow_sub_one_eq_mod x 52
theorem bit63 (x : Nat) : x &&& 9223372036854775808 = x / 9223372036854775808 % 2 * 9223372036854775808 := nat_bit 63 x
theorem sg_toNat (x : Nat) : (sg x).toNat = x / 9223372036854775808 % 2 := by
  unfold sg
  rcases Nat.mod_two_eq_zero_or_one (x / 9223372036854775808) with h | h <;> rw [h] <;> rfl

theorem bits_abs {b : Nat} (hb : b < 18446744073709551616) : bits .andNot .u64 (b : Int) 9223372036854775808 = (rg b : Int) := by
  have h := u64_andNot_nat b 9223372036854775808 hb (by decide)
  have h2 : b &&& (18446744073709551615 - 9223372036854775808) = rg b := and63 b
  rw [h2] at h
  exact h
theorem bits_sign {b : Nat} (hb : b < 18446744073709551616) : bits .and .u64 (b : Int) 9223372036854775808 = ((sg b).toNat * 9223372036854775808 : Nat) := by
  have h := u64_and_nat b 9223372036854775808 hb (by decide)
  rw [bit63, ← sg_toNat] at h
  exact h

theorem join63 (s : Bool) (r : Nat) (h : r < 9223372036854775808) : s.toNat * 9223372036854775808 ||| r = D.word s r := by
  rw [word_eq]
  exact nat_join 63 _ _ (Nat.mul_mod_left _ _) h

theorem bits_copysign (s : Bool) (r : Nat) (h : r < 9223372036854775808) : bits .or .u64 (r : Int) ((s.toNat * 9223372036854775808 : Nat) : Int) = (D.word s r : Int) := by
  rw [u64_or_nat r _ (by omega) (by cases s <;> decide), Nat.or_comm, join63 s r h]

/-- The word without its exponent. -/
theorem clear_exp {x : Nat} (hx : x < 18446744073709551616) : bits .andNot .u64 (x : Int) 9218868437227405312 = (D.word (sg x) (x % 4503599627370496) : Int) := by
  have h := u64_andNot_nat x 9218868437227405312 hx (by decide)
  have h1 : (18446744073709551615 - 9218868437227405312 : Nat) = 9223372036854775808 ||| 4503599627370495 := by decide
  rw [h1, Nat.and_or_distrib_left, bit63, and52, ← sg_toNat, join63 _ _ (by omega)] at h
  exact h

/-- An exponent is put into a word that has none. -/
theorem put_exp (s : Bool) (f e : Nat) (hf : f < 4503599627370496) (he : e < 2048) : bits .or .u64 (D.word s f : Int) ((e * 4503599627370496 : Nat) : Int) = (D.word s (e * 4503599627370496 + f) : Int) := by
  rw [u64_or_nat _ _ (word_lt64 _ _ (by omega)) (by omega), ← join63 s f (by omega), Nat.or_assoc, Nat.or_comm f, nat_join 52 (e * 4503599627370496) f (Nat.mul_mod_left _ _) hf, join63 _ _ (by omega)]

theorem get_exp {x : Nat} (hx : x < 18446744073709551616) : bits .and .u64 ((x : Int) / 4503599627370496) 2047 = (rg x / 4503599627370496 : Nat) := by
  have e : (x : Int) / 4503599627370496 = ((x / 4503599627370496 : Nat) : Int) := by omega
  have h := u64_and_nat (x / 4503599627370496) 2047 (by omega) (by decide)
  have h2 : x / 4503599627370496 &&& 2047 = x / 4503599627370496 % 2048 := Nat.and_two_pow_sub_one_eq_mod _ 11
  have h3 : x / 4503599627370496 % 2048 = rg x / 4503599627370496 := by unfold rg; omega
  rw [e]
  rw [h2, h3] at h
  exact h

theorem ofInt_i64' (a : Nat) (ha : a < 9223372036854775808) : (BitVec.ofInt 64 (a : Int)).toNat = a := by
  rw [BitVec.ofInt_natCast, BitVec.toNat_ofNat]; exact Nat.mod_eq_of_lt (by omega)
theorem i64_and_nat' (a b : Nat) (ha : a < 9223372036854775808) (hb : b < 9223372036854775808) : bits .and .i64 (a : Int) (b : Int) = ((a &&& b : Nat) : Int) := by
  have hx : a &&& b < 2 ^ 63 := Nat.and_lt_two_pow _ (by omega)
  show IntKind.i64.wrap ((BitVec.ofInt 64 (a : Int) &&& BitVec.ofInt 64 (b : Int)).toNat : Int) = _
  rw [BitVec.toNat_and, ofInt_i64' a ha, ofInt_i64' b hb, IntKind.wrap_i64]
  omega
theorem get_exp64 {x : Nat} (hx : x < 18446744073709551616) : bits .and .i64 ((x : Int) / 4503599627370496) 2047 = (rg x / 4503599627370496 : Nat) := by
  have e : (x : Int) / 4503599627370496 = ((x / 4503599627370496 : Nat) : Int) := by omega
  have h := i64_and_nat' (x / 4503599627370496) 2047 (by omega) (by decide)
  have h2 : x / 4503599627370496 &&& 2047 = x / 4503599627370496 % 2048 := Nat.and_two_pow_sub_one_eq_mod _ 11
  have h3 : x / 4503599627370496 % 2048 = rg x / 4503599627370496 := by unfold rg; omega
  rw [e]
  rw [h2, h3] at h
  exact h

/-! How any two words stand to each other. -/

/-- A word's place among all that are no NaN. -/
def ord (b : Nat) : Int := if sg b then -(rg b : Int) else (rg b : Int)

theorem fv_lt {a b : Nat} : fv a < fv b ↔ ord a < ord b := by
  have key : ∀ r s : Nat, (rm r : Rat) * pw (-1074) < (rm s : Rat) * pw (-1074) ↔ r < s := fun r s => unit_lt.trans rm_lt_iff
  have h0 : ∀ r : Nat, 0 ≤ (rm r : Rat) * pw (-1074) := fun r => Rat.mul_nonneg Rat.natCast_nonneg (Rat.le_of_lt (pw_pos _))
  have hz : ∀ r : Nat, (rm r : Rat) * pw (-1074) = 0 ↔ r = 0 := fun r => by
    constructor
    · intro h
      rcases Nat.eq_zero_or_pos r with h1 | h1
      · exact h1
      · have h2 := (key 0 r).2 h1
        rw [h] at h2
        have := h0 0
        exact absurd h2 (Rat.not_lt.2 this)
    · rintro rfl
      rw [rm_zero]; exact Rat.zero_mul _
  unfold fv ord
  have kab := key (rg a) (rg b)
  have kba := key (rg b) (rg a)
  have a0 := h0 (rg a)
  have b0 := h0 (rg b)
  have za := hz (rg a)
  have zb := hz (rg b)
  generalize (rm (rg a) : Rat) * pw (-1074) = x at *
  generalize (rm (rg b) : Rat) * pw (-1074) = y at *
  cases ha : sg a <;> cases hb : sg b <;> simp only [sv, if_true, Bool.false_eq_true, if_false]
  · rw [kab]; omega
  · constructor
    · intro h; exfalso; grind
    · intro h; omega
  · constructor
    · intro h
      rcases Nat.eq_zero_or_pos (rg a) with h1 | h1
      · rcases Nat.eq_zero_or_pos (rg b) with h2 | h2
        · have := za.2 h1; have := zb.2 h2; exfalso; grind
        · omega
      · omega
    · intro h
      have : rg a ≠ 0 ∨ rg b ≠ 0 := by omega
      have h3 : x ≠ 0 ∨ y ≠ 0 := by
        rcases this with h | h
        · exact .inl (fun h2 => h (za.1 h2))
        · exact .inr (fun h2 => h (zb.1 h2))
      grind
  · constructor
    · intro h
      have : y < x := by grind
      have := kba.1 this; omega
    · intro h
      have : rg b < rg a := by omega
      have := kba.2 this; grind

theorem fv_eq {a b : Nat} : fv a = fv b ↔ ord a = ord b := by
  have h1 := @fv_lt a b
  have h2 := @fv_lt b a
  constructor
  · intro h
    have : ¬ ord a < ord b := fun h3 => absurd (h1.2 h3) (by rw [h]; exact Rat.lt_irrefl)
    have : ¬ ord b < ord a := fun h3 => absurd (h2.2 h3) (by rw [h]; exact Rat.lt_irrefl)
    omega
  · intro h
    have n1 : ¬ fv a < fv b := fun h3 => by have := h1.1 h3; omega
    have n2 : ¬ fv b < fv a := fun h3 => by have := h2.1 h3; omega
    grind
theorem fv_le {a b : Nat} : fv a ≤ fv b ↔ ord a ≤ ord b := by
  have h2 := @fv_lt b a
  constructor
  · intro h
    have : ¬ ord b < ord a := fun h3 => absurd (h2.2 h3) (by grind)
    omega
  · intro h
    have n2 : ¬ fv b < fv a := fun h3 => by have := h2.1 h3; omega
    grind

theorem order_nan_l {a b : Nat} (h : INF < rg a) : D.order a b = none := by
  obtain ⟨t, ht⟩ := read_nan h
  unfold Format.order
  rw [ht]; rfl
theorem order_nan_r {a b : Nat} (h : INF < rg b) : D.order a b = none := by
  obtain ⟨t, ht⟩ := read_nan h
  unfold Format.order
  rw [ht]
  cases D.read a <;> rfl

theorem order_ord {a b : Nat} (ha : rg a ≤ INF) (hb : rg b ≤ INF) : D.order a b = some (compare (ord a) (ord b)) := by
  by_cases fa : rg a < INF
  · by_cases fb : rg b < INF
    · rw [order_fin fa fb]
      congr 1
      unfold cmpR
      by_cases h1 : ord a < ord b
      · rw [if_pos (fv_lt.2 h1)]; exact (Int.compare_eq_lt.2 h1).symm
      · rw [if_neg (fun h => h1 (fv_lt.1 h))]
        by_cases h2 : ord a = ord b
        · rw [if_pos (fv_eq.2 h2), h2]; exact (Int.compare_eq_eq.2 rfl).symm
        · rw [if_neg (fun h => h2 (fv_eq.1 h))]; exact (Int.compare_eq_gt.2 (by omega)).symm
    · have hb' : rg b = INF := by omega
      obtain ⟨m, p, h1, _, _⟩ := read_fin fa
      unfold Format.order
      rw [h1, read_inf hb']
      simp only [Datum.order, Option.some.injEq]
      unfold ord
      rw [hb']
      cases hs : sg b
      · simp only [Bool.false_eq_true, if_false]
        refine (Int.compare_eq_lt.2 ?_).symm
        split <;> omega
      · simp only [if_true]
        refine (Int.compare_eq_gt.2 ?_).symm
        split <;> omega
  · have ha' : rg a = INF := by omega
    by_cases fb : rg b < INF
    · obtain ⟨m, p, h1, _, _⟩ := read_fin fb
      unfold Format.order
      rw [h1, read_inf ha']
      simp only [Datum.order, Option.some.injEq]
      unfold ord
      rw [ha']
      cases hs : sg a
      · simp only [Bool.false_eq_true, if_false]
        refine (Int.compare_eq_gt.2 ?_).symm
        split <;> omega
      · simp only [if_true]
        refine (Int.compare_eq_lt.2 ?_).symm
        split <;> omega
    · have hb' : rg b = INF := by omega
      unfold Format.order
      rw [read_inf ha', read_inf hb']
      simp only [Datum.order, Option.some.injEq]
      unfold ord
      rw [ha', hb']
      have hp : 0 < INF := by decide
      cases hs : sg a <;> cases ht : sg b <;> simp only [Bool.false_eq_true, if_false, if_true, Bool.toNat_false, Bool.toNat_true]
      · exact (Int.compare_eq_eq.2 rfl).symm
      · exact (Int.compare_eq_gt.2 (by omega)).symm
      · exact (Int.compare_eq_lt.2 (by omega)).symm
      · exact (Int.compare_eq_eq.2 rfl).symm

/-! The comparisons, as Go has them. -/
def flt (a b : Nat) : Bool := decide (rg a ≤ INF ∧ rg b ≤ INF ∧ ord a < ord b)
def feq (a b : Nat) : Bool := decide (rg a ≤ INF ∧ rg b ≤ INF ∧ ord a = ord b)
def fle (a b : Nat) : Bool := decide (rg a ≤ INF ∧ rg b ≤ INF ∧ ord a ≤ ord b)

theorem order_cases (a b : Nat) : (D.order a b = none ∧ ¬ (rg a ≤ INF ∧ rg b ≤ INF)) ∨ ((rg a ≤ INF ∧ rg b ≤ INF) ∧
    ((D.order a b = some .lt ∧ ord a < ord b) ∨ (D.order a b = some .eq ∧ ord a = ord b) ∨ (D.order a b = some .gt ∧ ord b < ord a))) := by
  by_cases ha : rg a ≤ INF
  · by_cases hb : rg b ≤ INF
    · right
      refine ⟨⟨ha, hb⟩, ?_⟩
      rw [order_ord ha hb]
      rcases Int.lt_trichotomy (ord a) (ord b) with h | h | h
      · exact .inl ⟨by rw [Int.compare_eq_lt.2 h], h⟩
      · exact .inr (.inl ⟨by rw [Int.compare_eq_eq.2 h], h⟩)
      · exact .inr (.inr ⟨by rw [Int.compare_eq_gt.2 h], h⟩)
    · exact .inl ⟨order_nan_r (by omega), fun h => hb h.2⟩
  · exact .inl ⟨order_nan_l (by omega), fun h => ha h.1⟩

theorem order_lt (a b : Nat) : (FloatKind.f64.format.order a b == some Ordering.lt) = flt a b := by
  show (D.order a b == some Ordering.lt) = _
  unfold flt
  rcases order_cases a b with ⟨h, hn⟩ | ⟨hc, ⟨h, ho⟩ | ⟨h, ho⟩ | ⟨h, ho⟩⟩ <;> rw [h]
  · rw [decide_eq_false (fun h2 => hn ⟨h2.1, h2.2.1⟩)]; rfl
  · rw [decide_eq_true ⟨hc.1, hc.2, ho⟩]; rfl
  · rw [decide_eq_false (fun h2 => by omega)]; rfl
  · rw [decide_eq_false (fun h2 => by omega)]; rfl
theorem order_gt (a b : Nat) : (FloatKind.f64.format.order a b == some Ordering.gt) = flt b a := by
  show (D.order a b == some Ordering.gt) = _
  unfold flt
  rcases order_cases a b with ⟨h, hn⟩ | ⟨hc, ⟨h, ho⟩ | ⟨h, ho⟩ | ⟨h, ho⟩⟩ <;> rw [h]
  · rw [decide_eq_false (fun h2 => hn ⟨h2.2.1, h2.1⟩)]; rfl
  · rw [decide_eq_false (fun h2 => by omega)]; rfl
  · rw [decide_eq_false (fun h2 => by omega)]; rfl
  · rw [decide_eq_true ⟨hc.2, hc.1, ho⟩]; rfl
theorem order_eq (a b : Nat) : (FloatKind.f64.format.order a b == some Ordering.eq) = feq a b := by
  show (D.order a b == some Ordering.eq) = _
  unfold feq
  rcases order_cases a b with ⟨h, hn⟩ | ⟨hc, ⟨h, ho⟩ | ⟨h, ho⟩ | ⟨h, ho⟩⟩ <;> rw [h]
  · rw [decide_eq_false (fun h2 => hn ⟨h2.1, h2.2.1⟩)]; rfl
  · rw [decide_eq_false (fun h2 => by omega)]; rfl
  · rw [decide_eq_true ⟨hc.1, hc.2, ho⟩]; rfl
  · rw [decide_eq_false (fun h2 => by omega)]; rfl
theorem flt_or_feq (a b : Nat) : (flt a b || feq a b) = fle a b := by
  unfold flt feq fle
  rw [← Bool.decide_or, decide_eq_decide]
  omega
theorem feq_comm (a b : Nat) : feq a b = feq b a := by
  unfold feq; rw [decide_eq_decide]; omega
theorem order_le (a b : Nat) : (FloatKind.f64.format.order a b == some Ordering.lt || FloatKind.f64.format.order a b == some Ordering.eq) = fle a b := by
  rw [order_lt, order_eq, flt_or_feq]
theorem order_ge (a b : Nat) : (FloatKind.f64.format.order a b == some Ordering.gt || FloatKind.f64.format.order a b == some Ordering.eq) = fle b a := by
  rw [order_gt, order_eq, feq_comm, flt_or_feq]
theorem order_ne (a b : Nat) : (FloatKind.f64.format.order a b != some Ordering.eq) = !feq a b := by
  rw [← order_eq]; rfl

theorem flt_or_feq' (a b : Nat) : (flt b a || feq a b) = fle b a := by rw [feq_comm, flt_or_feq]

theorem ord_rg (b : Nat) : ord (rg b) = rg b := by
  have h := rg_lt b
  unfold ord
  have h1 : sg (rg b) = false := by unfold sg; rw [Nat.div_eq_of_lt h]; rfl
  have h2 : rg (rg b) = rg b := Nat.mod_eq_of_lt h
  rw [h1, h2]; rfl
theorem rg_rg (b : Nat) : rg (rg b) = rg b := Nat.mod_eq_of_lt (rg_lt b)
theorem sg_rg (b : Nat) : sg (rg b) = false := by unfold sg; rw [Nat.div_eq_of_lt (rg_lt b)]; rfl
theorem feq_zero (b : Nat) : feq b 0 = decide (rg b = 0) := by
  have h0 : ord 0 = 0 := by decide
  have h1 : rg 0 = 0 := by decide
  unfold feq
  rw [h0, h1, decide_eq_decide]
  have hI := INF_eq
  unfold ord
  constructor
  · rintro ⟨_, _, h⟩; split at h <;> omega
  · intro h; rw [h]; refine ⟨by omega, by omega, ?_⟩; split <;> rfl

end Lev
