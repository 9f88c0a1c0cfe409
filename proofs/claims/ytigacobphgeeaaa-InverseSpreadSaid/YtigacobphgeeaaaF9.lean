/- Plain texts, laid as one. -/
import Derived.Laws.FloatBits
import Derived.Laws.BitsAllLaws
import Derived.IntWalk
import Derived.Laws.FloatArith
/- What rounding to a float comes to: magnitudes of rungs, midpoints, and the rung nearest to a rational number. -/
namespace Lev
open Ieee

abbrev D : Format := Ieee.double

theorem D_binade : D.binade = 4503599627370496 := by decide
/-- The rung of an infinity. -/
def INF : Nat := 9218868437227405312
theorem INF_eq : INF = 9218868437227405312 := rfl
theorem INF_even : INF % 2 = 0 := by decide
theorem D_inf : D.infRung = INF := by decide
theorem D_sign : D.signWeight = 9223372036854775808 := by decide
theorem D_least : D.leastPlace = -1074 := by decide
theorem D_fb : D.fractionBits = 52 := by decide

/-- 2 to the power of k. -/
def pw (k : Int) : Rat := (2 : Rat) ^ k

theorem pw_pos (k : Int) : 0 < pw k := Rat.zpow_pos (by decide)
theorem pw_ne (k : Int) : pw k ≠ 0 := fun h => by have := pw_pos k; rw [h] at this; exact absurd this (by decide)
theorem pw_add (a b : Int) : pw (a + b) = pw a * pw b := Rat.zpow_add (by decide) a b
theorem pw_nat (n : Nat) : pw (n : Int) = ((2 ^ n : Nat) : Rat) := by
  unfold pw
  rw [Rat.zpow_natCast, Rat.natCast_pow]; rfl
theorem pw_zero : pw 0 = 1 := Rat.zpow_zero _
theorem pw_neg (k : Int) : pw (-k) * pw k = 1 := by rw [← pw_add, Int.add_left_neg, pw_zero]

/-- The magnitude of a rung, in units of 2^-1074. -/
def rm (r : Nat) : Nat := if r < 4503599627370496 then r else (4503599627370496 + r % 4503599627370496) * 2 ^ (r / 4503599627370496 - 1)

theorem rm_seg (e k : Nat) (h : e = 0 ∨ 4503599627370496 ≤ k) (hk : k ≤ 9007199254740992) : rm (e * 4503599627370496 + k) = k * 2 ^ e := by
  unfold rm
  by_cases h0 : e * 4503599627370496 + k < 4503599627370496
  · have he : e = 0 := by omega
    subst he
    rw [if_pos h0]; simp
  · rw [if_neg h0]
    by_cases hk2 : k = 9007199254740992
    · subst hk2
      have h1 : (e * 4503599627370496 + 9007199254740992) % 4503599627370496 = 0 := by omega
      have h2 : (e * 4503599627370496 + 9007199254740992) / 4503599627370496 - 1 = e + 1 := by omega
      rw [h1, h2, Nat.pow_succ]
      simp only [Nat.add_zero]
      rw [Nat.mul_comm (2 ^ e) 2, ← Nat.mul_assoc]
    · have h1 : (e * 4503599627370496 + k) % 4503599627370496 = k - 4503599627370496 := by omega
      have h2 : (e * 4503599627370496 + k) / 4503599627370496 - 1 = e := by omega
      have h3 : 4503599627370496 + (k - 4503599627370496) = k := by omega
      rw [h1, h2, h3]

/-- Each rung is in a segment. -/
theorem rung_seg (r : Nat) : ∃ e k, r = e * 4503599627370496 + k ∧ (e = 0 ∨ 4503599627370496 ≤ k) ∧ k < 9007199254740992 := by
  refine ⟨r / 4503599627370496 - 1, r - (r / 4503599627370496 - 1) * 4503599627370496, ?_, ?_, ?_⟩ <;> omega

theorem rm_succ_seg (e k : Nat) (h : e = 0 ∨ 4503599627370496 ≤ k) (hk : k < 9007199254740992) : rm (e * 4503599627370496 + k + 1) = (k + 1) * 2 ^ e := by
  rw [Nat.add_assoc, rm_seg e (k + 1) (by omega) (by omega)]

theorem rm_lt_succ (r : Nat) : rm r < rm (r + 1) := by
  obtain ⟨e, k, rfl, h, hk⟩ := rung_seg r
  rw [rm_succ_seg e k h hk, rm_seg e k h (by omega)]
  exact Nat.mul_lt_mul_of_pos_right (Nat.lt_succ_self k) (Nat.two_pow_pos e)

theorem rm_mono {r s : Nat} (h : r ≤ s) : rm r ≤ rm s := by
  induction s with
  | zero => have : r = 0 := by omega
            subst this; exact Nat.le_refl _
  | succ s ih =>
    by_cases hr : r = s + 1
    · subst hr; exact Nat.le_refl _
    · exact Nat.le_trans (ih (by omega)) (Nat.le_of_lt (rm_lt_succ s))

theorem rm_strict {r s : Nat} (h : r < s) : rm r < rm s := Nat.lt_of_lt_of_le (rm_lt_succ r) (rm_mono h)
theorem rm_lt_iff {r s : Nat} : rm r < rm s ↔ r < s := by
  constructor
  · intro h
    rcases Nat.lt_or_ge r s with h1 | h1
    · exact h1
    · have := rm_mono h1; omega
  · exact rm_strict
theorem rm_le_iff {r s : Nat} : rm r ≤ rm s ↔ r ≤ s := by
  constructor
  · intro h
    rcases Nat.lt_or_ge s r with h1 | h1
    · have := rm_strict h1; omega
    · exact h1
  · exact rm_mono
theorem rm_inj {r s : Nat} (h : rm r = rm s) : r = s := by
  rcases Nat.lt_trichotomy r s with h1 | h1 | h1
  · have := rm_strict h1; omega
  · exact h1
  · have := rm_strict h1; omega
theorem rm_zero : rm 0 = 0 := by decide
theorem rm_pos {r : Nat} (h : 0 < r) : 0 < rm r := by have := rm_strict h; rw [rm_zero] at this; exact this

/-- Twice the number between a rung and the next one. -/
def mid2 (r : Nat) : Nat := rm r + rm (r + 1)

theorem mid2_lt {r s : Nat} (h : r < s) : mid2 r < mid2 s := by
  have h1 := rm_strict h
  have h2 : rm (r + 1) < rm (s + 1) := rm_strict (by omega)
  unfold mid2; omega
theorem mid2_le {r s : Nat} (h : r ≤ s) : mid2 r ≤ mid2 s := by
  rcases Nat.lt_or_ge r s with h1 | h1
  · exact Nat.le_of_lt (mid2_lt h1)
  · have : r = s := by omega
    subst this; exact Nat.le_refl _
theorem mid2_seg (e k : Nat) (h : e = 0 ∨ 4503599627370496 ≤ k) (hk : k < 9007199254740992) : mid2 (e * 4503599627370496 + k) = (2 * k + 1) * 2 ^ e := by
  unfold mid2
  have h3 : k + (k + 1) = 2 * k + 1 := by omega
  rw [rm_succ_seg e k h hk, rm_seg e k h (by omega), ← Nat.add_mul, h3]

/-- What a cut to a whole number, to the nearest and even one, comes to. -/
theorem cut_spec (neg : Bool) (n s : Nat) :
    2 * n ≤ (2 * Toward.even.cut neg n s + 1) * 2 ^ s ∧ (2 * n = (2 * Toward.even.cut neg n s + 1) * 2 ^ s → Toward.even.cut neg n s % 2 = 0) ∧
    2 * Toward.even.cut neg n s * 2 ^ s ≤ 2 * n + 2 ^ s ∧ (2 * Toward.even.cut neg n s * 2 ^ s = 2 * n + 2 ^ s → Toward.even.cut neg n s % 2 = 0) := by
  have hlog : n < 2 ^ (n.log2 + 1) := Nat.lt_log2_self
  unfold Toward.cut
  simp only
  by_cases hs : s ≤ n.log2 + 2
  · rw [Nat.min_eq_left hs, Nat.shiftLeft_eq, Nat.one_mul]
    have hg : 0 < 2 ^ s := Nat.two_pow_pos s
    generalize 2 ^ s = g at *
    have hdm := Nat.div_add_mod n g
    have hm := Nat.mod_lt n hg
    generalize hq : n / g = q at *
    generalize ht : n % g = t at *
    have e1 : (2 * q + 1) * g = 2 * (g * q) + g := by rw [Nat.add_mul, Nat.one_mul, Nat.mul_assoc, Nat.mul_comm q g]
    have e2 : (2 * (q + 1) + 1) * g = 2 * (g * q) + 3 * g := by rw [Nat.add_mul, Nat.one_mul, Nat.mul_assoc, Nat.mul_comm (q + 1) g, Nat.mul_add]; omega
    have e3 : 2 * q * g = 2 * (g * q) := by rw [Nat.mul_assoc, Nat.mul_comm q g]
    have e4 : 2 * (q + 1) * g = 2 * (g * q) + 2 * g := by rw [Nat.mul_assoc, Nat.mul_comm (q + 1) g, Nat.mul_add]; omega
    by_cases c1 : g < 2 * t
    · have : (decide (g < 2 * t) || g == 2 * t && q % 2 == 1) = true := by simp [c1]
      rw [this, Bool.toNat_true]
      refine ⟨?_, ?_, ?_, ?_⟩ <;> (try rw [e2]) <;> (try rw [e4]) <;> omega
    · by_cases c2 : g = 2 * t
      · by_cases c3 : q % 2 = 1
        · have : (decide (g < 2 * t) || g == 2 * t && q % 2 == 1) = true := by simp [c2, c3]
          rw [this, Bool.toNat_true]
          refine ⟨?_, ?_, ?_, ?_⟩ <;> (try rw [e2]) <;> (try rw [e4]) <;> omega
        · have : (decide (g < 2 * t) || g == 2 * t && q % 2 == 1) = false := by simp [c2, c3]
          rw [this, Bool.toNat_false]
          simp only [Nat.add_zero]
          refine ⟨?_, ?_, ?_, ?_⟩ <;> (try rw [e1]) <;> (try rw [e3]) <;> omega
      · have : (decide (g < 2 * t) || g == 2 * t && q % 2 == 1) = false := by simp [c1, c2]
        rw [this, Bool.toNat_false]
        simp only [Nat.add_zero]
        refine ⟨?_, ?_, ?_, ?_⟩ <;> (try rw [e1]) <;> (try rw [e3]) <;> omega
  · rw [Nat.min_eq_right (by omega), Nat.shiftLeft_eq, Nat.one_mul]
    have hp : 2 ^ (n.log2 + 2) = 2 * 2 ^ (n.log2 + 1) := by rw [Nat.pow_succ]; omega
    have hle : 2 ^ (n.log2 + 2) ≤ 2 ^ s := Nat.pow_le_pow_right (by decide) (by omega)
    have hq : n / 2 ^ (n.log2 + 2) = 0 := Nat.div_eq_of_lt (by omega)
    have ht : n % 2 ^ (n.log2 + 2) = n := Nat.mod_eq_of_lt (by omega)
    rw [hq, ht]
    have : (decide (2 ^ (n.log2 + 2) < 2 * n) || 2 ^ (n.log2 + 2) == 2 * n && 0 % 2 == 1) = false := by simp; omega
    rw [this]
    simp only [Bool.toNat_false]
    refine ⟨?_, ?_, ?_, ?_⟩ <;> omega

/-- The rung r is the one to which x, not below 0, is rounded. -/
def IsRnd (x : Rat) (r : Nat) : Prop :=
  r ≤ INF ∧
  (r < INF → 2 * x ≤ (mid2 r : Rat) * pw (-1074) ∧ (2 * x = (mid2 r : Rat) * pw (-1074) → r % 2 = 0)) ∧
  (0 < r → (mid2 (r - 1) : Rat) * pw (-1074) ≤ 2 * x ∧ ((mid2 (r - 1) : Rat) * pw (-1074) = 2 * x → r % 2 = 0))

theorem le_of_eqR {a b : Rat} (h : a = b) : a ≤ b := h ▸ Rat.le_refl
theorem cast_le {a b : Nat} : (a : Rat) ≤ (b : Rat) ↔ a ≤ b := Rat.natCast_le_natCast
theorem cast_lt {a b : Nat} : (a : Rat) < (b : Rat) ↔ a < b := Rat.natCast_lt_natCast

theorem unit_le {a b : Nat} : (a : Rat) * pw (-1074) ≤ (b : Rat) * pw (-1074) ↔ a ≤ b := by
  constructor
  · intro h; exact cast_le.1 (Rat.le_of_mul_le_mul_right h (pw_pos _))
  · intro h; exact Rat.mul_le_mul_of_nonneg_right (cast_le.2 h) (Rat.le_of_lt (pw_pos _))
theorem unit_lt {a b : Nat} : (a : Rat) * pw (-1074) < (b : Rat) * pw (-1074) ↔ a < b := by
  rw [Rat.mul_lt_mul_right (pw_pos _)]; exact cast_lt

theorem IsRnd.mono {x y : Rat} {r s : Nat} (hx : IsRnd x r) (hy : IsRnd y s) (h : x ≤ y) : r ≤ s := by
  rcases Nat.lt_or_ge s r with hlt | hge
  · exfalso
    obtain ⟨hr, _, hr2⟩ := hx
    obtain ⟨hs, hs1, _⟩ := hy
    obtain ⟨a1, a2⟩ := hr2 (by omega)
    obtain ⟨b1, b2⟩ := hs1 (by omega)
    have h2 : 2 * x ≤ 2 * y := Rat.mul_le_mul_of_nonneg_left h (by decide)
    have h3 : (mid2 (r - 1) : Rat) * pw (-1074) ≤ (mid2 s : Rat) * pw (-1074) := Rat.le_trans a1 (Rat.le_trans h2 b1)
    have h4 := unit_le.1 h3
    have h5 : r - 1 = s := by
      rcases Nat.lt_or_ge s (r - 1) with h6 | h6
      · have := mid2_lt h6; omega
      · omega
    subst h5
    have e1 : 2 * x = (mid2 (r - 1) : Rat) * pw (-1074) := Rat.le_antisymm (Rat.le_trans h2 b1) a1
    have e2 : 2 * y = (mid2 (r - 1) : Rat) * pw (-1074) := Rat.le_antisymm b1 (Rat.le_trans a1 h2)
    have p1 := a2 e1.symm
    have p2 := b2 e2
    omega
  · exact hge

theorem IsRnd.unique {x : Rat} {r s : Nat} (hx : IsRnd x r) (hy : IsRnd x s) : r = s :=
  Nat.le_antisymm (hx.mono hy Rat.le_refl) (hy.mono hx Rat.le_refl)

theorem IsRnd.exact {r : Nat} (h : r < INF) : IsRnd ((rm r : Rat) * pw (-1074)) r := by
  have hr := rm_lt_succ r
  have e : ∀ z : Rat, 2 * (z * pw (-1074)) = (2 * z) * pw (-1074) := fun z => (Rat.mul_assoc _ _ _).symm
  have e2 : (2 * (rm r : Rat)) = ((2 * rm r : Nat) : Rat) := by rw [Rat.natCast_mul]; rfl
  refine ⟨Nat.le_of_lt h, fun _ => ?_, fun h0 => ?_⟩
  · rw [e, e2]
    have hlt : 2 * rm r < mid2 r := by unfold mid2; omega
    have := unit_lt.2 hlt
    exact ⟨Rat.le_of_lt this, fun heq => absurd heq (Rat.ne_of_lt this)⟩
  · rw [e, e2]
    have h1 := rm_lt_succ (r - 1)
    have h2 : r - 1 + 1 = r := by omega
    rw [h2] at h1
    have hlt : mid2 (r - 1) < 2 * rm r := by unfold mid2; rw [h2]; omega
    have := unit_lt.2 hlt
    exact ⟨Rat.le_of_lt this, fun heq => absurd heq (Rat.ne_of_lt this)⟩

/-- The rung to which 'm * 2^p' is rounded is the one of the model's word. -/
theorem nearest_spec (neg : Bool) (m : Nat) (p : Int) (hm : 0 < m) : ∃ r, D.nearest neg m p = D.word neg r ∧ IsRnd ((m : Rat) * pw p) r := by
  unfold Format.nearest
  rw [if_neg (by omega), D_fb, D_least, D_binade, D_inf]
  simp only
  have hlog : m < 2 ^ (m.log2 + 1) := Nat.lt_log2_self
  have hlog2 : 2 ^ m.log2 ≤ m := Nat.log2_self_le (by omega)
  generalize hg : m.log2 = g at *
  obtain ⟨L, hL⟩ : ∃ L, L = max (p + (g : Int) - ((52 : Nat) : Int)) (-1074) := ⟨_, rfl⟩
  rw [← hL]
  have hL1 : -1074 ≤ L := by omega
  have hL2 : p + g - 52 ≤ L := by omega
  have hL3 : L = -1074 ∨ L = p + g - 52 := by omega
  clear hL
  obtain ⟨e, he⟩ : ∃ e : Nat, (e : Int) = L - (-1074) := ⟨(L - (-1074)).toNat, by omega⟩
  have het : (L - (-1074)).toNat = e := by omega
  rw [het]
  obtain ⟨a, ha⟩ : ∃ a : Nat, a = (p - L).toNat := ⟨_, rfl⟩
  obtain ⟨s, hs⟩ : ∃ s : Nat, s = (L - p).toNat := ⟨_, rfl⟩
  rw [← ha, ← hs, Nat.shiftLeft_eq]
  have hasp : p + s = L + a := by omega
  obtain ⟨c1, c2, c3, c4⟩ := cut_spec neg (m * 2 ^ a) s
  generalize hK : Toward.even.cut neg (m * 2 ^ a) s = K at *
  -- the bounds of K
  have hn1 : m * 2 ^ a < 2 ^ (53 + s) := by
    have h1 : m * 2 ^ a < 2 ^ (g + 1) * 2 ^ a := Nat.mul_lt_mul_of_pos_right hlog (Nat.two_pow_pos a)
    rw [← Nat.pow_add] at h1
    exact Nat.lt_of_lt_of_le h1 (Nat.pow_le_pow_right (by decide) (by omega))
  have hn2 : 0 < e → 2 ^ (52 + s) ≤ m * 2 ^ a := fun h0 => by
    have h1 : 2 ^ g * 2 ^ a ≤ m * 2 ^ a := Nat.mul_le_mul_right _ hlog2
    rw [← Nat.pow_add] at h1
    have : 52 + s = g + a := by omega
    rw [this]; exact h1
  generalize hn : m * 2 ^ a = n at *
  have hsp : 0 < 2 ^ s := Nat.two_pow_pos s
  rw [Nat.pow_add] at hn1
  have hKle : K ≤ 9007199254740992 := by
    rcases Nat.lt_or_ge 9007199254740992 K with h | h
    · exfalso
      have h1 : 2 * 9007199254740993 * 2 ^ s ≤ 2 * K * 2 ^ s := Nat.mul_le_mul_right _ (by omega)
      have h2 : (2 : Nat) ^ 53 = 9007199254740992 := by decide
      rw [h2] at hn1
      omega
    · exact h
  have hKge : 0 < e → 4503599627370496 ≤ K := fun h0 => by
    have h1 := hn2 h0
    rw [Nat.pow_add] at h1
    rcases Nat.lt_or_ge K 4503599627370496 with h | h
    · exfalso
      have h2 : (2 * K + 1) * 2 ^ s ≤ 9007199254740991 * 2 ^ s := Nat.mul_le_mul_right _ (by omega)
      have h3 : (2 : Nat) ^ 52 = 4503599627370496 := by decide
      rw [h3] at h1
      omega
    · exact h
  have hseg : e = 0 ∨ 4503599627370496 ≤ K := by
    rcases Nat.eq_zero_or_pos e with h | h
    · exact .inl h
    · exact .inr (hKge h)
  -- from units to whole numbers
  have hx : ∀ A : Nat, (A : Rat) * pw (-1074) ≤ 2 * ((m : Rat) * pw p) ↔ A * 2 ^ s ≤ 2 * n * 2 ^ e := by
    intro A
    have q1 : ((A * 2 ^ s : Nat) : Rat) = (A : Rat) * pw s := by rw [Rat.natCast_mul, pw_nat]
    have q2 : ((2 * n * 2 ^ e : Nat) : Rat) = 2 * ((m : Rat) * pw a) * pw e := by
      rw [← hn, Rat.natCast_mul, Rat.natCast_mul, Rat.natCast_mul, pw_nat, pw_nat]; rfl
    rw [← cast_le, q1, q2]
    have k1 : 2 * ((m : Rat) * pw a) * pw e = 2 * ((m : Rat) * pw p) * (pw s * pw 1074) := by
      have : pw a * pw e = pw p * (pw s * pw 1074) := by rw [← pw_add, ← pw_add, ← pw_add, show (a : Int) + e = p + (s + 1074) from by omega]
      grind
    have k2 : (A : Rat) * pw s = (A : Rat) * pw (-1074) * (pw s * pw 1074) := by
      have := pw_neg 1074
      grind
    rw [k1, k2]
    have hpos : 0 < pw s * pw 1074 := Rat.mul_pos (pw_pos _) (pw_pos _)
    exact ⟨fun h => Rat.mul_le_mul_of_nonneg_right h (Rat.le_of_lt hpos), fun h => Rat.le_of_mul_le_mul_right h hpos⟩
  have hy : ∀ A : Nat, 2 * ((m : Rat) * pw p) ≤ (A : Rat) * pw (-1074) ↔ 2 * n * 2 ^ e ≤ A * 2 ^ s := by
    intro A
    have q1 : ((A * 2 ^ s : Nat) : Rat) = (A : Rat) * pw s := by rw [Rat.natCast_mul, pw_nat]
    have q2 : ((2 * n * 2 ^ e : Nat) : Rat) = 2 * ((m : Rat) * pw a) * pw e := by
      rw [← hn, Rat.natCast_mul, Rat.natCast_mul, Rat.natCast_mul, pw_nat, pw_nat]; rfl
    rw [← cast_le, q1, q2]
    have k1 : 2 * ((m : Rat) * pw a) * pw e = 2 * ((m : Rat) * pw p) * (pw s * pw 1074) := by
      have : pw a * pw e = pw p * (pw s * pw 1074) := by rw [← pw_add, ← pw_add, ← pw_add, show (a : Int) + e = p + (s + 1074) from by omega]
      grind
    have k2 : (A : Rat) * pw s = (A : Rat) * pw (-1074) * (pw s * pw 1074) := by
      have := pw_neg 1074
      grind
    rw [k1, k2]
    have hpos : 0 < pw s * pw 1074 := Rat.mul_pos (pw_pos _) (pw_pos _)
    exact ⟨fun h => Rat.mul_le_mul_of_nonneg_right h (Rat.le_of_lt hpos), fun h => Rat.le_of_mul_le_mul_right h hpos⟩
  have hep : 0 < 2 ^ e := Nat.two_pow_pos e
  -- above
  have up : 2 * ((m : Rat) * pw p) ≤ (mid2 (e * 4503599627370496 + K) : Rat) * pw (-1074) ∧
      (2 * ((m : Rat) * pw p) = (mid2 (e * 4503599627370496 + K) : Rat) * pw (-1074) → (e * 4503599627370496 + K) % 2 = 0) := by
    have hc : 2 * n * 2 ^ e ≤ (2 * K + 1) * 2 ^ s * 2 ^ e := Nat.mul_le_mul_right _ c1
    by_cases hK53 : K < 9007199254740992
    · have hmid := mid2_seg e K hseg hK53
      have hcomm : mid2 (e * 4503599627370496 + K) * 2 ^ s = (2 * K + 1) * 2 ^ s * 2 ^ e := by rw [hmid, Nat.mul_assoc, Nat.mul_assoc, Nat.mul_comm (2 ^ e)]
      refine ⟨(hy _).2 (by rw [hcomm]; exact hc), fun heq => ?_⟩
      have h1 := (hx _).1 (le_of_eqR heq.symm)
      rw [hcomm] at h1
      have h2 : 2 * n = (2 * K + 1) * 2 ^ s := Nat.le_antisymm c1 (Nat.le_of_mul_le_mul_right h1 hep)
      have := c2 h2
      omega
    · have hKe : K = 9007199254740992 := by omega
      have hlt : (2 * K + 1) * 2 ^ s * 2 ^ e < mid2 (e * 4503599627370496 + K) * 2 ^ s := by
        have hs1 : e * 4503599627370496 + K = (e + 1) * 4503599627370496 + 4503599627370496 := by omega
        have hmid := mid2_seg (e + 1) 4503599627370496 (.inr (Nat.le_refl _)) (by decide)
        rw [hs1, hmid, hKe, Nat.pow_succ, Nat.mul_assoc, Nat.mul_assoc, Nat.mul_comm (2 ^ s) (2 ^ e), Nat.mul_assoc (2 ^ e) 2, Nat.mul_comm 2 (2 ^ s), ← Nat.mul_assoc (2 ^ e)]
        have : 0 < 2 ^ e * 2 ^ s := Nat.mul_pos hep hsp
        generalize 2 ^ e * 2 ^ s = z at *
        omega
      refine ⟨(hy _).2 (Nat.le_of_lt (Nat.lt_of_le_of_lt hc hlt)), fun heq => ?_⟩
      have h1 := (hx _).1 (le_of_eqR heq.symm)
      omega
  -- below
  have down : 0 < e * 4503599627370496 + K → (mid2 (e * 4503599627370496 + K - 1) : Rat) * pw (-1074) ≤ 2 * ((m : Rat) * pw p) ∧
      ((mid2 (e * 4503599627370496 + K - 1) : Rat) * pw (-1074) = 2 * ((m : Rat) * pw p) → (e * 4503599627370496 + K) % 2 = 0) := by
    intro h0
    by_cases hb : e = 0 ∨ 4503599627370496 < K
    · have hK0 : 0 < K := by omega
      have hs1 : e * 4503599627370496 + K - 1 = e * 4503599627370496 + (K - 1) := by omega
      have hmid := mid2_seg e (K - 1) (by omega) (by omega)
      rw [← hs1] at hmid
      have hcomm : mid2 (e * 4503599627370496 + K - 1) * 2 ^ s = (2 * (K - 1) + 1) * 2 ^ s * 2 ^ e := by rw [hmid, Nat.mul_assoc, Nat.mul_assoc, Nat.mul_comm (2 ^ e)]
      have hKK : 2 * K * 2 ^ s = (2 * (K - 1) + 1) * 2 ^ s + 2 ^ s := by
        have : 2 * K = 2 * (K - 1) + 1 + 1 := by omega
        rw [this, Nat.add_mul (2 * (K - 1) + 1) 1, Nat.one_mul]
      rw [hKK] at c3 c4
      have c3' : (2 * (K - 1) + 1) * 2 ^ s ≤ 2 * n := by omega
      have hc : (2 * (K - 1) + 1) * 2 ^ s * 2 ^ e ≤ 2 * n * 2 ^ e := Nat.mul_le_mul_right _ c3'
      refine ⟨(hx _).2 (by rw [hcomm]; exact hc), fun heq => ?_⟩
      have h1 := (hy _).1 (le_of_eqR heq.symm)
      rw [hcomm] at h1
      have h2 : 2 * n = (2 * (K - 1) + 1) * 2 ^ s := Nat.le_antisymm (Nat.le_of_mul_le_mul_right h1 hep) c3'
      have := c4 (by rw [h2])
      omega
    · have he0 : 0 < e := by omega
      have hKe : K = 4503599627370496 := by have := hKge he0; omega
      have h1 := hn2 he0
      obtain ⟨e', rfl⟩ : ∃ e', e = e' + 1 := ⟨e - 1, by omega⟩
      have hs1 : (e' + 1) * 4503599627370496 + K - 1 = e' * 4503599627370496 + 9007199254740991 := by omega
      have hmid := mid2_seg e' 9007199254740991 (.inr (by decide)) (by decide)
      rw [hs1, hmid]
      have hlt : (2 * 9007199254740991 + 1) * 2 ^ e' * 2 ^ s < 2 * n * 2 ^ (e' + 1) := by
        rw [Nat.pow_add] at h1
        have h3 : (2 : Nat) ^ 52 = 4503599627370496 := by decide
        rw [h3] at h1
        have h4 : 2 * (4503599627370496 * 2 ^ s) * 2 ^ (e' + 1) ≤ 2 * n * 2 ^ (e' + 1) := Nat.mul_le_mul_right _ (by omega)
        rw [Nat.pow_succ] at h4 ⊢
        have h5 : 2 * (4503599627370496 * 2 ^ s) * (2 ^ e' * 2) = 18014398509481984 * (2 ^ e' * 2 ^ s) := by
          have : 2 ^ s * 2 ^ e' = 2 ^ e' * 2 ^ s := Nat.mul_comm _ _
          grind
        have h6 : (2 * 9007199254740991 + 1) * 2 ^ e' * 2 ^ s = 18014398509481983 * (2 ^ e' * 2 ^ s) := by rw [Nat.mul_assoc]
        have : 0 < 2 ^ e' * 2 ^ s := Nat.mul_pos (Nat.two_pow_pos _) hsp
        rw [h6]; rw [h5] at h4
        generalize 2 ^ e' * 2 ^ s = z at *
        omega
      refine ⟨(hx _).2 (Nat.le_of_lt hlt), fun heq => ?_⟩
      have h7 := (hy _).1 (le_of_eqR heq.symm)
      omega
  have hI := INF_even
  unfold IsRnd
  generalize INF = I at *
  clear hx hy c1 c2 c3 c4 hn1 hn2 hKle hKge hK hn hL1 hL2 hL3 he het ha hs hasp hlog hlog2 hg
  generalize e * 4503599627370496 + K = X at *
  rcases Nat.lt_or_ge I X with hov | hov
  · rw [Nat.min_eq_right (Nat.le_of_lt hov)]
    refine ⟨_, rfl, Nat.le_refl _, fun hlt => absurd hlt (Nat.lt_irrefl _), fun h0 => ?_⟩
    have hle : I - 1 ≤ X - 1 := by omega
    exact ⟨Rat.le_trans (unit_le.2 (mid2_le hle)) (down (by omega)).1, fun _ => hI⟩
  · rw [Nat.min_eq_left hov]
    exact ⟨_, rfl, hov, fun _ => up, down⟩

end Lev

/- The five operations on floats: what value each result has, and of which sign. -/
namespace Lev
open Ieee

/-- Of a word: has it a sign? -/
def sg (b : Nat) : Bool := b / 9223372036854775808 % 2 == 1
/-- Of a word: its rung. -/
def rg (b : Nat) : Nat := b % 9223372036854775808
/-- Of a word: is it a number? -/
def fin (b : Nat) : Prop := rg b < INF
instance (b : Nat) : Decidable (fin b) := inferInstanceAs (Decidable (_ < _))

/-- A size with a sign. -/
def sv (s : Bool) (x : Rat) : Rat := if s then -x else x
/-- The value of a word that is a number. -/
def fv (b : Nat) : Rat := sv (sg b) ((rm (rg b) : Rat) * pw (-1074))

theorem sv_false (x : Rat) : sv false x = x := rfl
theorem sv_true (x : Rat) : sv true x = -x := rfl
theorem sv_not (s : Bool) (x : Rat) : sv (!s) x = - sv s x := by cases s <;> simp [sv]
theorem sv_mul (s t : Bool) (x y : Rat) : sv s x * sv t y = sv (s ^^ t) (x * y) := by
  cases s <;> cases t <;> simp only [sv, Bool.xor_false, Bool.xor_true, Bool.not_false, Bool.not_true, if_true, Bool.false_eq_true, if_false] <;> grind

theorem sg_word (s : Bool) (r : Nat) (h : r < 9223372036854775808) : sg (D.word s r) = s := by
  unfold sg Format.word
  rw [D_sign]
  cases s
  · simp only [Bool.false_eq_true, if_false]
    have : r / 9223372036854775808 = 0 := Nat.div_eq_of_lt h
    rw [this]; rfl
  · simp only [if_true]
    have : (9223372036854775808 + r) / 9223372036854775808 = 1 := by omega
    rw [this]; rfl
theorem rg_word (s : Bool) (r : Nat) (h : r < 9223372036854775808) : rg (D.word s r) = r := by
  unfold rg Format.word
  rw [D_sign]
  cases s
  · simp only [Bool.false_eq_true, if_false]; omega
  · simp only [if_true]; omega
theorem word_sg_rg (b : Nat) (h : b < 18446744073709551616) : D.word (sg b) (rg b) = b := by
  unfold Format.word rg
  rw [D_sign]
  by_cases hs : sg b = true
  · rw [if_pos hs]
    unfold sg at hs
    simp only [beq_iff_eq] at hs
    omega
  · rw [if_neg hs]
    unfold sg at hs
    simp only [beq_iff_eq] at hs
    omega
theorem word_lt64 (s : Bool) (r : Nat) (h : r < 9223372036854775808) : D.word s r < 18446744073709551616 := by
  unfold Format.word; rw [D_sign]; split <;> omega
theorem eq_of_sg_rg {a b : Nat} (ha : a < 18446744073709551616) (hb : b < 18446744073709551616) (h1 : sg a = sg b) (h2 : rg a = rg b) : a = b := by
  rw [← word_sg_rg a ha, ← word_sg_rg b hb, h1, h2]
theorem rg_lt (b : Nat) : rg b < 9223372036854775808 := Nat.mod_lt _ (by decide)

theorem read_eq (b : Nat) : D.read b = if rg b < 4503599627370496 then .number (sg b) (rg b) (-1074)
    else if rg b < INF then .number (sg b) (4503599627370496 + rg b % 4503599627370496) (-1074 + (rg b / 4503599627370496 - 1 : Nat))
    else if rg b = INF then .infinity (sg b) else .nan (sg b) (rg b - INF) := by
  unfold Format.read
  rw [D_binade, D_inf, D_least, D_sign]
  rfl

theorem read_fin {b : Nat} (h : fin b) : ∃ m p, D.read b = .number (sg b) m p ∧ (m : Rat) * pw p = (rm (rg b) : Rat) * pw (-1074) ∧ (m = 0 ↔ rg b = 0) := by
  rw [read_eq]
  unfold fin at h
  by_cases h1 : rg b < 4503599627370496
  · rw [if_pos h1]
    refine ⟨_, _, rfl, ?_, Iff.rfl⟩
    unfold rm; rw [if_pos h1]
  · rw [if_neg h1, if_pos h]
    refine ⟨_, _, rfl, ?_, by omega⟩
    unfold rm; rw [if_neg h1, Rat.natCast_mul, ← pw_nat, pw_add]
    grind
theorem read_inf {b : Nat} (h : rg b = INF) : D.read b = .infinity (sg b) := by
  have hI := INF_eq
  rw [read_eq, if_neg (by omega), if_neg (by omega), if_pos h]
theorem read_nan {b : Nat} (h : INF < rg b) : ∃ t, D.read b = .nan (sg b) t := by
  have hI := INF_eq
  rw [read_eq, if_neg (by omega), if_neg (by omega), if_neg (by omega)]
  exact ⟨_, rfl⟩

theorem IsRnd.zero : IsRnd 0 0 := by
  have h : (mid2 0 : Rat) * pw (-1074) = pw (-1074) := by
    have : mid2 0 = 1 := by decide
    rw [this]; exact Rat.one_mul _
  refine ⟨by decide, fun _ => ?_, fun h0 => absurd h0 (by decide)⟩
  rw [h]
  have := pw_pos (-1074)
  exact ⟨by grind, fun _ => rfl⟩
theorem IsRnd.zero_eq {r : Nat} (h : IsRnd 0 r) : r = 0 := h.unique .zero

theorem write_spec (neg : Bool) (m : Nat) (p : Int) : ∃ r, D.write (.number neg m p) = D.word neg r ∧ IsRnd ((m : Rat) * pw p) r := by
  unfold Format.write
  simp only
  by_cases hm : m = 0
  · subst hm
    refine ⟨0, by simp [Format.nearest], ?_⟩
    have : ((0 : Nat) : Rat) * pw p = 0 := Rat.zero_mul _
    rw [this]; exact .zero
  · exact nearest_spec neg m p (by omega)

theorem IsRnd.le {x : Rat} {r : Nat} (h : IsRnd x r) : r ≤ INF := h.1
theorem IsRnd.lt63 {x : Rat} {r : Nat} (h : IsRnd x r) : r < 9223372036854775808 := Nat.lt_of_le_of_lt h.1 (by decide)

theorem cast_shift (m u : Nat) : ((m <<< u : Nat) : Rat) = (m : Rat) * pw u := by
  rw [Nat.shiftLeft_eq, Rat.natCast_mul, ← pw_nat]

theorem cast_signed (s : Bool) (m u : Nat) : ((signed s m u : Int) : Rat) = sv s ((m : Rat) * pw u) := by
  unfold signed sv
  cases s
  · simp only [Bool.false_eq_true, if_false]
    rw [Rat.intCast_natCast, cast_shift]
  · simp only [if_true]
    rw [Rat.intCast_neg, Rat.intCast_natCast, cast_shift]

theorem sv_scale (s : Bool) (x y : Rat) : sv s x * y = sv s (x * y) := by cases s <;> simp only [sv, if_true, Bool.false_eq_true, if_false] <;> grind

theorem natAbs_cast (t : Int) : ((t.natAbs : Nat) : Rat) = (if t < 0 then -(t : Rat) else (t : Rat)) := by
  split
  · have : (t.natAbs : Int) = -t := by omega
    rw [← Rat.intCast_natCast, this, Rat.intCast_neg]
  · have : (t.natAbs : Int) = t := by omega
    rw [← Rat.intCast_natCast, this]

/-- The size of a number. -/
def ab (x : Rat) : Rat := if x < 0 then -x else x
theorem ab_nonneg (x : Rat) : 0 ≤ ab x := by unfold ab; split <;> grind
theorem ab_neg (x : Rat) : ab (-x) = ab x := by unfold ab; split <;> split <;> grind
theorem ab_mul (x y : Rat) : ab (x * y) = ab x * ab y := by
  have key : ∀ a b : Rat, 0 ≤ a → 0 ≤ b → 0 ≤ a * b := fun a b => Rat.mul_nonneg
  unfold ab
  by_cases hx : x < 0 <;> by_cases hy : y < 0
  · have := key (-x) (-y) (by grind) (by grind)
    rw [if_pos hx, if_pos hy, if_neg (by grind)]; grind
  · have := key (-x) y (by grind) (by grind)
    rw [if_pos hx, if_neg hy]
    by_cases h0 : x * y < 0
    · rw [if_pos h0]; grind
    · rw [if_neg h0]; grind
  · have := key x (-y) (by grind) (by grind)
    rw [if_neg hx, if_pos hy]
    by_cases h0 : x * y < 0
    · rw [if_pos h0]; grind
    · rw [if_neg h0]; grind
  · have := key x y (by grind) (by grind)
    rw [if_neg hx, if_neg hy, if_neg (by grind)]

/-- What a sum of two read numbers comes to. -/
theorem sum_spec (s t : Bool) (m n : Nat) (i j : Int) : ∃ r, (Datum.sum (.number s m i) (.number t n j)).map D.write = some (D.word (if sv s ((m : Rat) * pw i) + sv t ((n : Rat) * pw j) = 0 then s && t else decide (sv s ((m : Rat) * pw i) + sv t ((n : Rat) * pw j) < 0)) r) ∧
    IsRnd (ab (sv s ((m : Rat) * pw i) + sv t ((n : Rat) * pw j))) r := by
  unfold Datum.sum
  simp only
  generalize htot : signed s m (i - min i j).toNat + signed t n (j - min i j).toNat = tot
  have hval : (tot : Rat) * pw (min i j) = sv s ((m : Rat) * pw i) + sv t ((n : Rat) * pw j) := by
    rw [← htot, Rat.intCast_add, cast_signed, cast_signed, Rat.add_mul, sv_scale, sv_scale, Rat.mul_assoc, Rat.mul_assoc, ← pw_add, ← pw_add]
    have h1 : ((i - min i j).toNat : Int) + min i j = i := by omega
    have h2 : ((j - min i j).toNat : Int) + min i j = j := by omega
    rw [h1, h2]
  rw [← hval]
  obtain ⟨r, hr1, hr2⟩ := write_spec (if tot = 0 then s && t else decide (tot < 0)) tot.natAbs (min i j)
  have hp := pw_pos (min i j)
  have hz : ((tot : Rat) * pw (min i j) = 0) ↔ tot = 0 := by
    rw [Rat.mul_eq_zero]
    constructor
    · rintro (h | h)
      · exact Rat.intCast_eq_zero_iff.1 h
      · exact absurd h (pw_ne _)
    · intro h; exact .inl (Rat.intCast_eq_zero_iff.2 h)
  have hn : ((tot : Rat) * pw (min i j) < 0) ↔ tot < 0 := by
    constructor
    · intro h
      by_cases h0 : tot < 0
      · exact h0
      · exfalso
        have h1 : (0 : Rat) ≤ (tot : Rat) := Rat.intCast_nonneg.2 (by omega)
        have := Rat.mul_nonneg h1 (Rat.le_of_lt hp)
        grind
    · intro h
      have h1 : (0 : Rat) < ((-tot : Int) : Rat) := Rat.intCast_pos.2 (by omega)
      have h2 := Rat.mul_pos h1 hp
      rw [Rat.intCast_neg] at h2
      grind
  refine ⟨r, ?_, ?_⟩
  · simp only [Option.map_some, Option.some.injEq]
    have e1 : (if (tot : Rat) * pw (min i j) = 0 then s && t else decide ((tot : Rat) * pw (min i j) < 0)) = (if tot = 0 then s && t else decide (tot < 0)) := by
      by_cases h0 : tot = 0
      · rw [if_pos h0, if_pos (hz.2 h0)]
      · rw [if_neg h0, if_neg (fun h => h0 (hz.1 h))]
        rw [decide_eq_decide]; exact hn
    rw [e1]; exact hr1
  · have e2 : ab ((tot : Rat) * pw (min i j)) = ((tot.natAbs : Nat) : Rat) * pw (min i j) := by
      rw [ab_mul, natAbs_cast]
      have h1 : ab (pw (min i j)) = pw (min i j) := by unfold ab; rw [if_neg (by grind)]
      rw [h1]
      congr 1
      unfold ab
      by_cases h0 : tot < 0
      · rw [if_pos h0, if_pos (Rat.intCast_neg_iff.2 h0)]
      · rw [if_neg h0, if_neg (fun h => h0 (Rat.intCast_neg_iff.1 h))]
    rw [e2]; exact hr2

/-- The sign of a sum. -/
def sumSg (s t : Bool) (x : Rat) : Bool := if x = 0 then s && t else decide (x < 0)

theorem fv_read {b : Nat} (h : fin b) : ∃ m p, D.read b = .number (sg b) m p ∧ sv (sg b) ((m : Rat) * pw p) = fv b := by
  obtain ⟨m, p, h1, h2, _⟩ := read_fin h
  exact ⟨m, p, h1, by rw [h2]; rfl⟩

theorem add_spec {a b : Nat} (ha : fin a) (hb : fin b) : ∃ r, D.add a b = some (D.word (sumSg (sg a) (sg b) (fv a + fv b)) r) ∧ IsRnd (ab (fv a + fv b)) r := by
  obtain ⟨m, i, h1, h2⟩ := fv_read ha
  obtain ⟨n, j, h3, h4⟩ := fv_read hb
  unfold Format.add
  rw [h1, h3, ← h2, ← h4]
  exact sum_spec ..

theorem sub_spec {a b : Nat} (ha : fin a) (hb : fin b) : ∃ r, D.sub a b = some (D.word (sumSg (sg a) (!sg b) (fv a - fv b)) r) ∧ IsRnd (ab (fv a - fv b)) r := by
  obtain ⟨m, i, h1, h2⟩ := fv_read ha
  obtain ⟨n, j, h3, h4⟩ := fv_read hb
  unfold Format.sub
  have e : fv a - fv b = sv (sg a) ((m : Rat) * pw i) + sv (!sg b) ((n : Rat) * pw j) := by rw [sv_not, h2, h4]; grind
  rw [h1, h3, e]
  exact sum_spec ..

theorem mul_spec {a b : Nat} (ha : fin a) (hb : fin b) : ∃ r, D.mul a b = some (D.word (sg a ^^ sg b) r) ∧ IsRnd (ab (fv a * fv b)) r := by
  obtain ⟨m, i, h1, h2, _⟩ := read_fin ha
  obtain ⟨n, j, h3, h4, _⟩ := read_fin hb
  unfold Format.mul
  rw [h1, h3]
  unfold Datum.product
  simp only [Option.map_some, Option.some.injEq]
  obtain ⟨r, hr1, hr2⟩ := write_spec (sg a ^^ sg b) (m * n) (i + j)
  refine ⟨r, hr1, ?_⟩
  have e : ab (fv a * fv b) = ((m * n : Nat) : Rat) * pw (i + j) := by
    unfold fv
    rw [sv_mul, ← h2, ← h4, Rat.natCast_mul, pw_add]
    have hnn : 0 ≤ (m : Rat) * pw i * ((n : Rat) * pw j) := by
      apply Rat.mul_nonneg <;> exact Rat.mul_nonneg Rat.natCast_nonneg (Rat.le_of_lt (pw_pos _))
    have : ∀ s, ab (sv s ((m : Rat) * pw i * ((n : Rat) * pw j))) = (m : Rat) * pw i * ((n : Rat) * pw j) := by
      intro s
      cases s
      · rw [sv_false]; unfold ab; rw [if_neg (by grind)]
      · rw [sv_true, ab_neg]; unfold ab; rw [if_neg (by grind)]
    rw [this]
    grind
  rw [e]; exact hr2

/-! Quotients and roots are told to some digits and one more: that rounds as the number itself. -/

/-- A midpoint that is great enough is a whole number of units 2^P. -/
theorem mid_whole (r : Nat) (P : Int) (h : pw (53 + P) ≤ (mid2 r : Rat) * pw (-1075)) : ∃ j : Nat, (mid2 r : Rat) * pw (-1075) = (j : Rat) * pw P := by
  obtain ⟨e, k, rfl, hs, hk⟩ := rung_seg r
  rw [mid2_seg e k hs hk] at h ⊢
  rw [Rat.natCast_mul, ← pw_nat, Rat.mul_assoc, ← pw_add] at h ⊢
  have hle : P ≤ (e : Int) + -1075 := by
    rcases Int.lt_or_le ((e : Int) + -1075) P with hlt | hge
    · exfalso
      have h1 : (((2 * k + 1 : Nat)) : Rat) < pw 54 := by
        have h2 : pw 54 = ((18014398509481984 : Nat) : Rat) := by rw [show (54 : Int) = ((54 : Nat) : Int) from rfl, pw_nat]
        rw [h2]; exact cast_lt.2 (by omega)
      have h3 : (((2 * k + 1 : Nat)) : Rat) * pw ((e : Int) + -1075) < pw 54 * pw ((e : Int) + -1075) := Rat.mul_lt_mul_of_pos_right h1 (pw_pos _)
      rw [← pw_add] at h3
      obtain ⟨d, hd⟩ : ∃ d : Nat, 53 + P = (54 + ((e : Int) + -1075)) + d := ⟨(53 + P - (54 + ((e : Int) + -1075))).toNat, by omega⟩
      rw [hd, pw_add, pw_nat] at h
      have h4 : (1 : Rat) ≤ ((2 ^ d : Nat) : Rat) := by
        have : ((1 : Nat) : Rat) ≤ ((2 ^ d : Nat) : Rat) := cast_le.2 (Nat.two_pow_pos d)
        simpa using this
      have h5 := Rat.mul_le_mul_of_nonneg_left h4 (Rat.le_of_lt (pw_pos (54 + ((e : Int) + -1075))))
      grind
    · exact hge
  obtain ⟨d, hd⟩ : ∃ d : Nat, (e : Int) + -1075 = (d : Int) + P := ⟨((e : Int) + -1075 - P).toNat, by omega⟩
  refine ⟨(2 * k + 1) * 2 ^ d, ?_⟩
  rw [hd, pw_add, Rat.natCast_mul, ← pw_nat]
  grind

theorem half_unit : pw (-1074) = 2 * pw (-1075) := by
  have h : pw (-1074) = pw (1 + -1075) := by congr 1
  have h1 : pw 1 = 2 := Rat.zpow_one 2
  rw [h, pw_add, h1]

/-- The number whose q digits and one more are told is rounded as what is told. -/
theorem sticky (q : Nat) (P : Int) (x y : Rat) (r : Nat) (hq : 9007199254740992 ≤ q) (hx1 : (q : Rat) * pw P ≤ x) (hx2 : x < ((q : Rat) + 1) * pw P)
    (hy1 : (q : Rat) * pw P ≤ y) (hy2 : y < ((q : Rat) + 1) * pw P) (hxy : x = (q : Rat) * pw P ↔ y = (q : Rat) * pw P) (h : IsRnd y r) : IsRnd x r := by
  have hq' : pw (53 + P) ≤ (q : Rat) * pw P := by
    rw [pw_add]
    have h2 : pw 53 = ((9007199254740992 : Nat) : Rat) := by rw [show (53 : Int) = ((53 : Nat) : Int) from rfl, pw_nat]
    rw [h2]; exact Rat.mul_le_mul_of_nonneg_right (cast_le.2 hq) (Rat.le_of_lt (pw_pos _))
  have hp := pw_pos P
  -- against any midpoint both stand alike
  have key : ∀ s : Nat, ((mid2 s : Rat) * pw (-1075) ≤ y ↔ (mid2 s : Rat) * pw (-1075) ≤ x) ∧ (y ≤ (mid2 s : Rat) * pw (-1075) ↔ x ≤ (mid2 s : Rat) * pw (-1075)) := by
    intro s
    by_cases hc : (mid2 s : Rat) * pw (-1075) < (q : Rat) * pw P
    · constructor <;> constructor <;> intro _ <;> grind
    · obtain ⟨j, hj⟩ := mid_whole s P (by grind)
      rw [hj] at hc ⊢
      have hqj : q ≤ j := by
        have : (q : Rat) * pw P ≤ (j : Rat) * pw P := by grind
        exact cast_le.1 (Rat.le_of_mul_le_mul_right this hp)
      rcases Nat.lt_or_ge q j with h1 | h1
      · have h2 : ((q : Rat) + 1) * pw P ≤ (j : Rat) * pw P := by
          have h3 : ((q + 1 : Nat) : Rat) ≤ (j : Rat) := cast_le.2 h1
          rw [Rat.natCast_add] at h3
          exact Rat.mul_le_mul_of_nonneg_right h3 (Rat.le_of_lt hp)
        constructor <;> constructor <;> intro _ <;> grind
      · have : j = q := by omega
        subst this
        constructor
        · constructor <;> intro _ <;> grind
        · constructor
          · intro h0
            have : y = (j : Rat) * pw P := Rat.le_antisymm h0 hy1
            have := hxy.2 this
            grind
          · intro h0
            have : x = (j : Rat) * pw P := Rat.le_antisymm h0 hx1
            have := hxy.1 this
            grind
  obtain ⟨a, b, c⟩ := h
  refine ⟨a, fun h0 => ?_, fun h0 => ?_⟩
  · obtain ⟨b1, b2⟩ := b h0
    obtain ⟨k1, k2⟩ := key r
    rw [half_unit] at b1 b2 ⊢
    refine ⟨by have := k2.1 (by grind); grind, fun heq => b2 ?_⟩
    have e1 : (mid2 r : Rat) * pw (-1075) ≤ x := by grind
    have := k1.2 e1
    grind
  · obtain ⟨b1, b2⟩ := c h0
    obtain ⟨k1, k2⟩ := key (r - 1)
    rw [half_unit] at b1 b2 ⊢
    refine ⟨by have := k1.1 (by grind); grind, fun heq => b2 ?_⟩
    have e1 : x ≤ (mid2 (r - 1) : Rat) * pw (-1075) := by grind
    have := k2.2 e1
    grind

theorem two_cast : ((2 : Nat) : Rat) = 2 := rfl

/-- What is told of q digits and one more: '2q + st' at half a unit. -/
theorem told_eq (q : Nat) (st : Bool) (P : Int) : ((2 * q + st.toNat : Nat) : Rat) * pw (P - 1) = ((q : Rat) + (if st then (1 / 2 : Rat) else 0)) * pw P := by
  have h1 : pw P = 2 * pw (P - 1) := by
    have h : pw P = pw (1 + (P - 1)) := by congr 1; omega
    have h1 : pw 1 = 2 := Rat.zpow_one 2
    rw [h, pw_add, h1]
  rw [h1, Rat.natCast_add, Rat.natCast_mul, two_cast]
  cases st
  · simp only [Bool.toNat_false, Bool.false_eq_true, if_false]
    have : ((0 : Nat) : Rat) = 0 := rfl
    rw [this]; grind
  · simp only [Bool.toNat_true, if_true]
    have : ((1 : Nat) : Rat) = 1 := rfl
    rw [this]; grind

theorem quotient_spec (s t : Bool) (m n : Nat) (i j : Int) (hm : 0 < m) (hn : 0 < n) : ∃ r, (Datum.quotient 54 (.number s m i) (.number t n j)).map D.write = some (D.word (s ^^ t) r) ∧
    IsRnd ((m : Rat) * pw i / ((n : Rat) * pw j)) r := by
  unfold Datum.quotient
  simp only
  rw [if_neg (by omega)]
  simp only [Option.map_some, Option.some.injEq]
  generalize hmore : 54 + n.log2 - m.log2 = more
  rw [Nat.shiftLeft_eq]
  generalize hdiv : m * 2 ^ more = dv
  obtain ⟨r, hr1, hr2⟩ := write_spec (s ^^ t) (2 * (dv / n) + (dv % n != 0).toNat) (i - j - more - 1)
  refine ⟨r, hr1, ?_⟩
  rw [told_eq] at hr2
  have hdm := Nat.div_add_mod dv n
  have hml := Nat.mod_lt dv hn
  have hnr : (0 : Rat) < (n : Rat) := Rat.natCast_pos.2 hn
  have hq : 9007199254740992 ≤ dv / n := by
    rw [Nat.le_div_iff_mul_le hn]
    have h1 : 2 ^ m.log2 ≤ m := Nat.log2_self_le (by omega)
    have h2 : n < 2 ^ (n.log2 + 1) := Nat.lt_log2_self
    have h3 : 2 ^ (m.log2 + more) ≤ dv := by rw [← hdiv, Nat.pow_add]; exact Nat.mul_le_mul_right _ h1
    have h4 : 9007199254740992 * n ≤ 2 ^ 53 * 2 ^ (n.log2 + 1) := Nat.mul_le_mul (by decide) (Nat.le_of_lt h2)
    rw [← Nat.pow_add] at h4
    have h5 : 2 ^ (53 + (n.log2 + 1)) ≤ 2 ^ (m.log2 + more) := Nat.pow_le_pow_right (by decide) (by omega)
    omega
  -- the quotient
  have hx : (m : Rat) * pw i / ((n : Rat) * pw j) = (dv : Rat) / (n : Rat) * pw (i - j - more) := by
    have hdv : (dv : Rat) = (m : Rat) * pw more := by rw [← hdiv, Rat.natCast_mul, pw_nat]
    have hi : pw i = pw (i - j - more) * pw more * pw j := by rw [← pw_add, ← pw_add]; congr 1; omega
    rw [hdv, hi]
    have hj := pw_ne j
    have hn0 : (n : Rat) ≠ 0 := fun h => by rw [h] at hnr; exact absurd hnr (by decide)
    grind
  rw [hx]
  have hp := pw_pos (i - j - more)
  generalize hP : i - j - (more : Int) = P at *
  have hdr : (dv : Rat) = (n : Rat) * ((dv / n : Nat) : Rat) + ((dv % n : Nat) : Rat) := by
    rw [← Rat.natCast_mul, ← Rat.natCast_add, hdm]
  have hquo : (dv : Rat) / (n : Rat) = ((dv / n : Nat) : Rat) + ((dv % n : Nat) : Rat) / (n : Rat) := by
    rw [hdr]
    have hn0 : (n : Rat) ≠ 0 := fun h => by rw [h] at hnr; exact absurd hnr (by decide)
    grind
  have hfr0 : 0 ≤ ((dv % n : Nat) : Rat) / (n : Rat) := by
    rw [Rat.div_def]
    exact Rat.mul_nonneg Rat.natCast_nonneg (Rat.le_of_lt (Rat.inv_pos.2 hnr))
  have hfr1 : ((dv % n : Nat) : Rat) / (n : Rat) < 1 := by
    rw [Rat.div_lt_iff hnr, Rat.one_mul]; exact cast_lt.2 hml
  have hfrz : ((dv % n : Nat) : Rat) / (n : Rat) = 0 ↔ dv % n = 0 := by
    constructor
    · intro h
      have hn0 : (n : Rat) ≠ 0 := fun h => by rw [h] at hnr; exact absurd hnr (by decide)
      have : ((dv % n : Nat) : Rat) = 0 := by
        have h1 := Rat.div_mul_cancel (a := ((dv % n : Nat) : Rat)) hn0
        rw [h, Rat.zero_mul] at h1
        exact h1.symm
      exact Rat.natCast_eq_zero_iff.1 this
    · intro h; rw [h, Rat.div_def]; exact Rat.zero_mul _
  rw [hquo]
  generalize ((dv % n : Nat) : Rat) / (n : Rat) = fr at *
  have mlt : ∀ a b : Rat, a < b → a * pw P < b * pw P := fun a b h => Rat.mul_lt_mul_of_pos_right h hp
  have mle : ∀ a b : Rat, a ≤ b → a * pw P ≤ b * pw P := fun a b h => Rat.mul_le_mul_of_nonneg_right h (Rat.le_of_lt hp)
  refine sticky (dv / n) P _ _ r hq (mle _ _ (by grind)) (mlt _ _ (by grind)) (mle _ _ ?_) (mlt _ _ ?_) ?_ hr2
  · split <;> grind
  · split <;> grind
  · by_cases hst : dv % n = 0
    · have e0 := hfrz.2 hst
      rw [e0, hst]
      simp
    · have e0 : fr ≠ 0 := fun h => hst (hfrz.1 h)
      have : (dv % n != 0) = true := by simp [hst]
      rw [this]
      simp only [if_true]
      constructor
      · intro h
        have := mlt ((dv / n : Nat) : Rat) (((dv / n : Nat) : Rat) + fr) (by grind)
        grind
      · intro h
        have := mlt ((dv / n : Nat) : Rat) (((dv / n : Nat) : Rat) + 1 / 2) (by grind)
        grind

theorem ab_sv (s : Bool) (x : Rat) (h : 0 ≤ x) : ab (sv s x) = x := by
  cases s
  · rw [sv_false]; unfold ab; rw [if_neg (by grind)]
  · rw [sv_true, ab_neg]; unfold ab; rw [if_neg (by grind)]
theorem ab_fv (b : Nat) : ab (fv b) = (rm (rg b) : Rat) * pw (-1074) := by
  unfold fv; exact ab_sv _ _ (Rat.mul_nonneg Rat.natCast_nonneg (Rat.le_of_lt (pw_pos _)))

theorem div_spec {a b : Nat} (ha : fin a) (hb : fin b) (h0 : rg b ≠ 0) : ∃ r, D.div a b = some (D.word (sg a ^^ sg b) r) ∧ IsRnd (ab (fv a) / ab (fv b)) r := by
  obtain ⟨m, i, h1, h2, hz1⟩ := read_fin ha
  obtain ⟨n, j, h3, h4, hz2⟩ := read_fin hb
  unfold Format.div
  rw [h1, h3, D_fb, ab_fv, ab_fv, ← h2, ← h4]
  have hn : 0 < n := by
    rcases Nat.eq_zero_or_pos n with h | h
    · exact absurd (hz2.1 h) h0
    · exact h
  by_cases hm : m = 0
  · subst hm
    unfold Datum.quotient
    simp only
    rw [if_neg (by omega)]
    simp only [Option.map_some, Option.some.injEq]
    rw [Nat.zero_shiftLeft, Nat.zero_div, Nat.zero_mod]
    obtain ⟨r, hr1, hr2⟩ := write_spec (sg a ^^ sg b) (2 * 0 + (0 != 0 : Bool).toNat) (i - j - ((52 + 2 + n.log2 - Nat.log2 0 : Nat) : Int) - 1)
    refine ⟨r, hr1, ?_⟩
    have e1 : ((2 * 0 + (0 != 0 : Bool).toNat : Nat) : Rat) * pw (i - j - ((52 + 2 + n.log2 - Nat.log2 0 : Nat) : Int) - 1) = 0 := Rat.zero_mul _
    have e2 : ((0 : Nat) : Rat) * pw i / ((n : Rat) * pw j) = 0 := by
      have : ((0 : Nat) : Rat) = 0 := rfl
      rw [this, Rat.zero_mul, Rat.div_def, Rat.zero_mul]
    rw [e1] at hr2
    rw [e2]; exact hr2
  · exact quotient_spec _ _ m n i j (by omega) hn

end Lev

/- Roots; how two floats stand to each other; how far a result is from what comes without an error. -/
namespace Lev
open Ieee

theorem rootFrom_spec (n : Nat) : ∀ (todo root : Nat), root * root ≤ n → n < (root + 2 ^ todo) * (root + 2 ^ todo) →
    Datum.rootFrom n todo root * Datum.rootFrom n todo root ≤ n ∧ n < (Datum.rootFrom n todo root + 1) * (Datum.rootFrom n todo root + 1) := by
  intro todo
  induction todo with
  | zero => intro root h1 h2; exact ⟨h1, h2⟩
  | succ k ih =>
    intro root h1 h2
    unfold Datum.rootFrom
    simp only
    rw [Nat.shiftLeft_eq, Nat.one_mul]
    by_cases hc : (root + 2 ^ k) * (root + 2 ^ k) ≤ n
    · rw [if_pos hc]
      refine ih _ hc ?_
      have : root + 2 ^ k + 2 ^ k = root + 2 ^ (k + 1) := by rw [Nat.pow_succ]; omega
      rw [this]; exact h2
    · rw [if_neg hc]
      exact ih _ h1 (by omega)

theorem root_whole (n : Nat) : Datum.rootFrom n (n.log2 / 2 + 1) 0 * Datum.rootFrom n (n.log2 / 2 + 1) 0 ≤ n ∧
    n < (Datum.rootFrom n (n.log2 / 2 + 1) 0 + 1) * (Datum.rootFrom n (n.log2 / 2 + 1) 0 + 1) := by
  refine rootFrom_spec n _ 0 (by omega) ?_
  have h : n < 2 ^ (n.log2 + 1) := Nat.lt_log2_self
  rw [Nat.zero_add, ← Nat.pow_add]
  exact Nat.lt_of_lt_of_le h (Nat.pow_le_pow_right (by decide) (by omega))

/-- The rung r is the one to which the root of y is rounded. -/
def IsRndS (y : Rat) (r : Nat) : Prop :=
  r ≤ INF ∧
  (r < INF → y ≤ ((mid2 r : Rat) * pw (-1075)) * ((mid2 r : Rat) * pw (-1075)) ∧ (y = ((mid2 r : Rat) * pw (-1075)) * ((mid2 r : Rat) * pw (-1075)) → r % 2 = 0)) ∧
  (0 < r → ((mid2 (r - 1) : Rat) * pw (-1075)) * ((mid2 (r - 1) : Rat) * pw (-1075)) ≤ y ∧ (((mid2 (r - 1) : Rat) * pw (-1075)) * ((mid2 (r - 1) : Rat) * pw (-1075)) = y → r % 2 = 0))

theorem sq_le {a b : Rat} (ha : 0 ≤ a) (h : a ≤ b) : a * a ≤ b * b := by
  have h1 := Rat.mul_le_mul_of_nonneg_left h ha
  have h2 := Rat.mul_le_mul_of_nonneg_right h (Rat.le_trans ha h)
  exact Rat.le_trans h1 h2
theorem sq_lt {a b : Rat} (ha : 0 ≤ a) (h : a < b) : a * a < b * b := by
  have h1 := Rat.mul_le_mul_of_nonneg_left (Rat.le_of_lt h) ha
  have h2 := Rat.mul_lt_mul_of_pos_right h (by grind : 0 < b)
  grind

theorem root_spec (m : Nat) (i : Int) (hm : 0 < m) : ∃ r, (Datum.root 54 (.number false m i)).map D.write = some (D.word false r) ∧ IsRndS ((m : Rat) * pw i) r := by
  unfold Datum.root
  simp only
  rw [if_neg (by omega), if_neg (by decide)]
  simp only [Option.map_some, Option.some.injEq]
  generalize hmore : 2 * 54 - m.log2 + ((i - ((2 * 54 - m.log2 : Nat) : Int)) % 2).toNat = more
  have hev : (i - (more : Int)) % 2 = 0 := by omega
  have hmg : 108 ≤ m.log2 + more := by omega
  rw [Nat.shiftLeft_eq]
  obtain ⟨hw1, hw2⟩ := root_whole (m * 2 ^ more)
  have hn1 : 2 ^ 108 ≤ m * 2 ^ more := by
    have h1 : 2 ^ m.log2 ≤ m := Nat.log2_self_le (by omega)
    have h2 : 2 ^ (m.log2 + more) ≤ m * 2 ^ more := by rw [Nat.pow_add]; exact Nat.mul_le_mul_right _ h1
    exact Nat.le_trans (Nat.pow_le_pow_right (by decide) hmg) h2
  generalize hn : m * 2 ^ more = n at *
  generalize Datum.rootFrom n (n.log2 / 2 + 1) 0 = w at *
  obtain ⟨r, hr1, hr2⟩ := write_spec false (2 * w + (w * w != n).toNat) ((i - more) / 2 - 1)
  refine ⟨r, hr1, ?_⟩
  rw [told_eq] at hr2
  obtain ⟨P, hP⟩ : ∃ P : Int, P = (i - more) / 2 := ⟨_, rfl⟩
  rw [← hP] at hr2
  have hP2 : i = P + P + more := by omega
  have hq : 9007199254740992 ≤ w := by
    rcases Nat.lt_or_ge w 9007199254740992 with h | h
    · exfalso
      have h1 : (w + 1) * (w + 1) ≤ 9007199254740992 * 9007199254740992 := Nat.mul_le_mul (by omega) (by omega)
      have h2 : (2 : Nat) ^ 108 = 9007199254740992 * 9007199254740992 * 4 := by decide
      omega
    · exact h
  have hy : (m : Rat) * pw i = (n : Rat) * (pw P * pw P) := by
    rw [← hn, Rat.natCast_mul, ← pw_nat, hP2, pw_add, pw_add]
    grind
  rw [hy]
  have hp := pw_pos P
  have hpp : 0 < pw P * pw P := Rat.mul_pos hp hp
  have hsplit : w * w = n ∨ w * w < n := by omega
  generalize hst : (w * w != n) = st at *
  have hst1 : st = true ↔ w * w < n := by rw [← hst]; simp; omega
  have hsqe : ∀ j : Nat, ((j : Rat) * pw P) * ((j : Rat) * pw P) = ((j * j : Nat) : Rat) * (pw P * pw P) := fun j => by rw [Rat.natCast_mul]; grind
  have cle : ∀ a b : Nat, (a : Rat) * (pw P * pw P) ≤ (b : Rat) * (pw P * pw P) ↔ a ≤ b := fun a b =>
    ⟨fun h => cast_le.1 (Rat.le_of_mul_le_mul_right h hpp), fun h => Rat.mul_le_mul_of_nonneg_right (cast_le.2 h) (Rat.le_of_lt hpp)⟩
  have clt : ∀ a b : Nat, a < b → (a : Rat) * (pw P * pw P) < (b : Rat) * (pw P * pw P) := fun a b h => Rat.mul_lt_mul_of_pos_right (cast_lt.2 h) hpp
  have hbig : pw (53 + P) ≤ (w : Rat) * pw P := by
    rw [pw_add]
    have h2 : pw 53 = ((9007199254740992 : Nat) : Rat) := by rw [show (53 : Int) = ((53 : Nat) : Int) from rfl, pw_nat]
    rw [h2]; exact Rat.mul_le_mul_of_nonneg_right (cast_le.2 hq) (Rat.le_of_lt hp)
  have hwn : 0 ≤ (w : Rat) * pw P := Rat.mul_nonneg Rat.natCast_nonneg (Rat.le_of_lt hp)
  -- what is told lies in [w, w + 1)
  have hv1 : (w : Rat) * pw P ≤ ((w : Rat) + (if st then (1 / 2 : Rat) else 0)) * pw P := Rat.mul_le_mul_of_nonneg_right (by split <;> grind) (Rat.le_of_lt hp)
  have hv2 : ((w : Rat) + (if st then (1 / 2 : Rat) else 0)) * pw P < ((w + 1 : Nat) : Rat) * pw P := by
    rw [Rat.natCast_add]
    refine Rat.mul_lt_mul_of_pos_right ?_ hp
    have : ((1 : Nat) : Rat) = 1 := rfl
    rw [this]
    split <;> grind
  have hv3 : ((w : Rat) + (if st then (1 / 2 : Rat) else 0)) * pw P = (w : Rat) * pw P ↔ w * w = n := by
    cases st
    · simp only [Bool.false_eq_true, if_false]
      have : ¬ w * w < n := fun h => by have := hst1.2 h; cases this
      constructor
      · intro _; omega
      · intro _; grind
    · have h1 : w * w < n := hst1.1 rfl
      simp only [if_true]
      constructor
      · intro h
        have := Rat.mul_lt_mul_of_pos_right (show (w : Rat) < (w : Rat) + 1 / 2 by grind) hp
        grind
      · intro h; omega
  generalize ((w : Rat) + (if st then (1 / 2 : Rat) else 0)) * pw P = v at *
  have key : ∀ s : Nat, ((mid2 s : Rat) * pw (-1075) ≤ v ↔ ((mid2 s : Rat) * pw (-1075)) * ((mid2 s : Rat) * pw (-1075)) ≤ (n : Rat) * (pw P * pw P)) ∧
      (v ≤ (mid2 s : Rat) * pw (-1075) ↔ (n : Rat) * (pw P * pw P) ≤ ((mid2 s : Rat) * pw (-1075)) * ((mid2 s : Rat) * pw (-1075))) := by
    intro s
    have hM : 0 ≤ (mid2 s : Rat) * pw (-1075) := Rat.mul_nonneg Rat.natCast_nonneg (Rat.le_of_lt (pw_pos _))
    by_cases hc : (mid2 s : Rat) * pw (-1075) < (w : Rat) * pw P
    · have h1 := sq_lt hM hc
      rw [hsqe] at h1
      have h2 := (cle (w * w) n).2 hw1
      constructor <;> constructor <;> intro _ <;> grind
    · obtain ⟨j, hj⟩ := mid_whole s P (by grind)
      rw [hj] at hc ⊢
      rw [hsqe]
      have hqj : w ≤ j := by
        have : (w : Rat) * pw P ≤ (j : Rat) * pw P := by grind
        exact cast_le.1 (Rat.le_of_mul_le_mul_right this hp)
      rcases Nat.lt_or_ge w j with h1 | h1
      · have h2 : ((w + 1 : Nat) : Rat) * pw P ≤ (j : Rat) * pw P := Rat.mul_le_mul_of_nonneg_right (cast_le.2 h1) (Rat.le_of_lt hp)
        have h3 : n < j * j := Nat.lt_of_lt_of_le hw2 (Nat.mul_le_mul h1 h1)
        have h4 := clt _ _ h3
        constructor <;> constructor <;> intro _ <;> grind
      · have : j = w := by omega
        subst this
        have h2 := (cle (j * j) n).2 hw1
        constructor
        · constructor <;> intro _ <;> grind
        · constructor
          · intro h0
            have h3 : j * j = n := hv3.1 (Rat.le_antisymm h0 hv1)
            rw [h3]; exact Rat.le_refl
          · intro h0
            have h3 : j * j = n := Nat.le_antisymm hw1 ((cle n (j * j)).1 h0)
            exact le_of_eqR (hv3.2 h3)
  obtain ⟨a, b, c⟩ := hr2
  refine ⟨a, fun h0 => ?_, fun h0 => ?_⟩
  · obtain ⟨b1, b2⟩ := b h0
    obtain ⟨k1, k2⟩ := key r
    rw [half_unit] at b1 b2
    refine ⟨k2.1 (by grind), fun heq => b2 ?_⟩
    have := k1.2 (le_of_eqR heq.symm)
    grind
  · obtain ⟨b1, b2⟩ := c h0
    obtain ⟨k1, k2⟩ := key (r - 1)
    rw [half_unit] at b1 b2
    refine ⟨k1.1 (by grind), fun heq => b2 ?_⟩
    have := k2.2 (le_of_eqR heq.symm)
    grind

theorem sqrt_zero {a : Nat} (h : rg a = 0) : D.sqrt a = some (D.word (sg a) 0) := by
  unfold Format.sqrt
  rw [read_eq, if_pos (by omega), h]
  rfl
theorem sqrt_spec {a : Nat} (ha : fin a) (hs : sg a = false) (h0 : rg a ≠ 0) : ∃ r, D.sqrt a = some (D.word false r) ∧ IsRndS (fv a) r := by
  obtain ⟨m, i, h1, h2, hz⟩ := read_fin ha
  unfold Format.sqrt
  rw [h1, D_fb, hs]
  have e : fv a = (m : Rat) * pw i := by unfold fv; rw [hs, sv_false, h2]
  rw [e]
  refine root_spec m i ?_
  rcases Nat.eq_zero_or_pos m with h | h
  · exact absurd (hz.1 h) h0
  · exact h

/-! How two floats stand to each other. -/

/-- How two rational numbers stand to each other. -/
def cmpR (x y : Rat) : Ordering := if x < y then .lt else if x = y then .eq else .gt

theorem order_num (s t : Bool) (m n : Nat) (i j : Int) : Datum.order (.number s m i) (.number t n j) = some (cmpR (sv s ((m : Rat) * pw i)) (sv t ((n : Rat) * pw j))) := by
  unfold Datum.order
  simp only [Option.some.injEq]
  have h1 : ((i - min i j).toNat : Int) + min i j = i := by omega
  have h2 : ((j - min i j).toNat : Int) + min i j = j := by omega
  have e1 : ((signed s m (i - min i j).toNat : Int) : Rat) * pw (min i j) = sv s ((m : Rat) * pw i) := by
    rw [cast_signed, sv_scale, Rat.mul_assoc, ← pw_add, h1]
  have e2 : ((signed t n (j - min i j).toNat : Int) : Rat) * pw (min i j) = sv t ((n : Rat) * pw j) := by
    rw [cast_signed, sv_scale, Rat.mul_assoc, ← pw_add, h2]
  rw [← e1, ← e2]
  generalize signed s m (i - min i j).toNat = A
  generalize signed t n (j - min i j).toNat = B
  have hp := pw_pos (min i j)
  unfold cmpR
  have hlt : (A : Rat) * pw (min i j) < (B : Rat) * pw (min i j) ↔ A < B := by rw [Rat.mul_lt_mul_right hp]; exact Rat.intCast_lt_intCast
  have heq : (A : Rat) * pw (min i j) = (B : Rat) * pw (min i j) ↔ A = B := by
    constructor
    · intro h
      have h3 := Rat.le_of_mul_le_mul_right (le_of_eqR h) hp
      have h4 := Rat.le_of_mul_le_mul_right (le_of_eqR h.symm) hp
      exact Rat.intCast_inj.1 (Rat.le_antisymm h3 h4)
    · intro h; rw [h]
  by_cases c1 : A < B
  · rw [if_pos (hlt.2 c1)]; exact Int.compare_eq_lt.2 c1
  · rw [if_neg (fun h => c1 (hlt.1 h))]
    by_cases c2 : A = B
    · rw [if_pos (heq.2 c2), c2]; exact Int.compare_eq_eq.2 rfl
    · rw [if_neg (fun h => c2 (heq.1 h))]; exact Int.compare_eq_gt.2 (by omega)

theorem order_fin {a b : Nat} (ha : fin a) (hb : fin b) : D.order a b = some (cmpR (fv a) (fv b)) := by
  obtain ⟨m, i, h1, h2⟩ := fv_read ha
  obtain ⟨n, j, h3, h4⟩ := fv_read hb
  unfold Format.order
  rw [h1, h3, order_num, h2, h4]

end Lev

/- Words and their parts: signs, exponents and fractions by bit operations; how any two words stand to each other; what a float is made of. -/
namespace Lev
open Ieee Go

theorem sg_lt {b : Nat} (hb : b < 18446744073709551616) : sg b = decide (9223372036854775808 ≤ b) := by
  unfold sg
  by_cases h : 9223372036854775808 ≤ b
  · have : b / 9223372036854775808 % 2 = 1 := by omega
    rw [this]; simp [h]
  · have : b / 9223372036854775808 % 2 = 0 := by omega
    rw [this]; simp [h]

/-- The word of a sign and a rung, as a sum. -/
theorem word_eq (s : Bool) (r : Nat) : D.word s r = s.toNat * 9223372036854775808 + r := by
  unfold Format.word
  rw [D_sign]
  cases s
  · simp
  · simp

theorem and63 (x : Nat) : x &&& 9223372036854775807 = x % 9223372036854775808 := Nat.and_two_pow_sub_one_eq_mod x 63
theorem and52 (x : Nat) : x &&& 4503599627370495 = x % 4503599627370496 := Nat.and_two_pow_sub_one_eq_mod x 52
theorem bit63 (x : Nat) : x &&& 9223372036854775808 = x / 9223372036854775808 % 2 * 9223372036854775808 := nat_bit 63 x
theorem sg_toNat (x : Nat) : (sg x).toNat = x / 9223372036854775808 % 2 := by
  unfold sg
  rcases Nat.mod_two_eq_zero_or_one (x / 9223372036854775808) with h | h <;> rw [h] <;> rfl

theorem bits_abs {b : Nat} (hb : b < 18446744073709551616) : bits .andNot .u64 (b : Int) 9223372036854775808 = (rg b : Int) := by
  have h := u64_andNot_nat b 9223372036854775808 hb (by decide)
  have h2 : b &&& (18446744073709551615 - 9223372036854775808) = rg b := and63 b
  rw [h2] at h
  exact h
theorem bits_sign {b : Nat} (hb : b < 18446744073709551616) : bits .and .u64 (b : Int) 9223372036854775808 = ((sg b).toNat * 9223372036854775808 : Nat) := by
  have h := u64_and_nat b 9223372036854775808 hb (by decide)
  rw [bit63, ← sg_toNat] at h
  exact h

theorem join63 (s : Bool) (r : Nat) (h : r < 9223372036854775808) : s.toNat * 9223372036854775808 ||| r = D.word s r := by
  rw [word_eq]
  exact nat_join 63 _ _ (Nat.mul_mod_left _ _) h

theorem bits_copysign (s : Bool) (r : Nat) (h : r < 9223372036854775808) : bits .or .u64 (r : Int) ((s.toNat * 9223372036854775808 : Nat) : Int) = (D.word s r : Int) := by
  rw [u64_or_nat r _ (by omega) (by cases s <;> decide), Nat.or_comm, join63 s r h]

/-- The word without its exponent. -/
theorem clear_exp {x : Nat} (hx : x < 18446744073709551616) : bits .andNot .u64 (x : Int) 9218868437227405312 = (D.word (sg x) (x % 4503599627370496) : Int) := by
  have h := u64_andNot_nat x 9218868437227405312 hx (by decide)
  have h1 : (18446744073709551615 - 9218868437227405312 : Nat) = 9223372036854775808 ||| 4503599627370495 := by decide
  rw [h1, Nat.and_or_distrib_left, bit63, and52, ← sg_toNat, join63 _ _ (by omega)] at h
  exact h

/-- An exponent is put into a word that has none. -/
theorem put_exp (s : Bool) (f e : Nat) (hf : f < 4503599627370496) (he : e < 2048) : bits .or .u64 (D.word s f : Int) ((e * 4503599627370496 : Nat) : Int) = (D.word s (e * 4503599627370496 + f) : Int) := by
  rw [u64_or_nat _ _ (word_lt64 _ _ (by omega)) (by omega), ← join63 s f (by omega), Nat.or_assoc, Nat.or_comm f, nat_join 52 (e * 4503599627370496) f (Nat.mul_mod_left _ _) hf, join63 _ _ (by omega)]

theorem get_exp {x : Nat} (hx : x < 18446744073709551616) : bits .and .u64 ((x : Int) / 4503599627370496) 2047 = (rg x / 4503599627370496 : Nat) := by
  have e : (x : Int) / 4503599627370496 = ((x / 4503599627370496 : Nat) : Int) := by omega
  have h := u64_and_nat (x / 4503599627370496) 2047 (by omega) (by decide)
  have h2 : x / 4503599627370496 &&& 2047 = x / 4503599627370496 % 2048 := Nat.and_two_pow_sub_one_eq_mod _ 11
  have h3 : x / 4503599627370496 % 2048 = rg x / 4503599627370496 := by unfold rg; omega
  rw [e]
  rw [h2, h3] at h
  exact h

theorem ofInt_i64' (a : Nat) (ha : a < 9223372036854775808) : (BitVec.ofInt 64 (a : Int)).toNat = a := by
  rw [BitVec.ofInt_natCast, BitVec.toNat_ofNat]; exact Nat.mod_eq_of_lt (by omega)
theorem i64_and_nat' (a b : Nat) (ha : a < 9223372036854775808) (hb : b < 9223372036854775808) : bits .and .i64 (a : Int) (b : Int) = ((a &&& b : Nat) : Int) := by
  have hx : a &&& b < 2 ^ 63 := Nat.and_lt_two_pow _ (by omega)
  show IntKind.i64.wrap ((BitVec.ofInt 64 (a : Int) &&& BitVec.ofInt 64 (b : Int)).toNat : Int) = _
  rw [BitVec.toNat_and, ofInt_i64' a ha, ofInt_i64' b hb, IntKind.wrap_i64]
  omega
theorem get_exp64 {x : Nat} (hx : x < 18446744073709551616) : bits .and .i64 ((x : Int) / 4503599627370496) 2047 = (rg x / 4503599627370496 : Nat) := by
  have e : (x : Int) / 4503599627370496 = ((x / 4503599627370496 : Nat) : Int) := by omega
  have h := i64_and_nat' (x / 4503599627370496) 2047 (by omega) (by decide)
  have h2 : x / 4503599627370496 &&& 2047 = x / 4503599627370496 % 2048 := Nat.and_two_pow_sub_one_eq_mod _ 11
  have h3 : x / 4503599627370496 % 2048 = rg x / 4503599627370496 := by unfold rg; omega
  rw [e]
  rw [h2, h3] at h
  exact h

/-! How any two words stand to each other. -/

/-- A word's place among all that are no NaN. -/
def ord (b : Nat) : Int := if sg b then -(rg b : Int) else (rg b : Int)

theorem fv_lt {a b : Nat} : fv a < fv b ↔ ord a < ord b := by
  have key : ∀ r s : Nat, (rm r : Rat) * pw (-1074) < (rm s : Rat) * pw (-1074) ↔ r < s := fun r s => unit_lt.trans rm_lt_iff
  have h0 : ∀ r : Nat, 0 ≤ (rm r : Rat) * pw (-1074) := fun r => Rat.mul_nonneg Rat.natCast_nonneg (Rat.le_of_lt (pw_pos _))
  have hz : ∀ r : Nat, (rm r : Rat) * pw (-1074) = 0 ↔ r = 0 := fun r => by
    constructor
    · intro h
      rcases Nat.eq_zero_or_pos r with h1 | h1
      · exact h1
      · have h2 := (key 0 r).2 h1
        rw [h] at h2
        have := h0 0
        exact absurd h2 (Rat.not_lt.2 this)
    · rintro rfl
      rw [rm_zero]; exact Rat.zero_mul _
  unfold fv ord
  have kab := key (rg a) (rg b)
  have kba := key (rg b) (rg a)
  have a0 := h0 (rg a)
  have b0 := h0 (rg b)
  have za := hz (rg a)
  have zb := hz (rg b)
  generalize (rm (rg a) : Rat) * pw (-1074) = x at *
  generalize (rm (rg b) : Rat) * pw (-1074) = y at *
  cases ha : sg a <;> cases hb : sg b <;> simp only [sv, if_true, Bool.false_eq_true, if_false]
  · rw [kab]; omega
  · constructor
    · intro h; exfalso; grind
    · intro h; omega
  · constructor
    · intro h
      rcases Nat.eq_zero_or_pos (rg a) with h1 | h1
      · rcases Nat.eq_zero_or_pos (rg b) with h2 | h2
        · have := za.2 h1; have := zb.2 h2; exfalso; grind
        · omega
      · omega
    · intro h
      have : rg a ≠ 0 ∨ rg b ≠ 0 := by omega
      have h3 : x ≠ 0 ∨ y ≠ 0 := by
        rcases this with h | h
        · exact .inl (fun h2 => h (za.1 h2))
        · exact .inr (fun h2 => h (zb.1 h2))
      grind
  · constructor
    · intro h
      have : y < x := by grind
      have := kba.1 this; omega
    · intro h
      have : rg b < rg a := by omega
      have := kba.2 this; grind

theorem fv_eq {a b : Nat} : fv a = fv b ↔ ord a = ord b := by
  have h1 := @fv_lt a b
  have h2 := @fv_lt b a
  constructor
  · intro h
    have : ¬ ord a < ord b := fun h3 => absurd (h1.2 h3) (by rw [h]; exact Rat.lt_irrefl)
    have : ¬ ord b < ord a := fun h3 => absurd (h2.2 h3) (by rw [h]; exact Rat.lt_irrefl)
    omega
  · intro h
    have n1 : ¬ fv a < fv b := fun h3 => by have := h1.1 h3; omega
    have n2 : ¬ fv b < fv a := fun h3 => by have := h2.1 h3; omega
    grind
theorem fv_le {a b : Nat} : fv a ≤ fv b ↔ ord a ≤ ord b := by
  have h2 := @fv_lt b a
  constructor
  · intro h
    have : ¬ ord b < ord a := fun h3 => absurd (h2.2 h3) (by grind)
    omega
  · intro h
    have n2 : ¬ fv b < fv a := fun h3 => by have := h2.1 h3; omega
    grind

theorem order_nan_l {a b : Nat} (h : INF < rg a) : D.order a b = none := by
  obtain ⟨t, ht⟩ := read_nan h
  unfold Format.order
  rw [ht]; rfl
theorem order_nan_r {a b : Nat} (h : INF < rg b) : D.order a b = none := by
  obtain ⟨t, ht⟩ := read_nan h
  unfold Format.order
  rw [ht]
  cases D.read a <;> rfl

theorem order_ord {a b : Nat} (ha : rg a ≤ INF) (hb : rg b ≤ INF) : D.order a b = some (compare (ord a) (ord b)) := by
  by_cases fa : rg a < INF
  · by_cases fb : rg b < INF
    · rw [order_fin fa fb]
      congr 1
      unfold cmpR
      by_cases h1 : ord a < ord b
      · rw [if_pos (fv_lt.2 h1)]; exact (Int.compare_eq_lt.2 h1).symm
      · rw [if_neg (fun h => h1 (fv_lt.1 h))]
        by_cases h2 : ord a = ord b
        · rw [if_pos (fv_eq.2 h2), h2]; exact (Int.compare_eq_eq.2 rfl).symm
        · rw [if_neg (fun h => h2 (fv_eq.1 h))]; exact (Int.compare_eq_gt.2 (by omega)).symm
    · have hb' : rg b = INF := by omega
      obtain ⟨m, p, h1, _, _⟩ := read_fin fa
      unfold Format.order
      rw [h1, read_inf hb']
      simp only [Datum.order, Option.some.injEq]
      unfold ord
      rw [hb']
      cases hs : sg b
      · simp only [Bool.false_eq_true, if_false]
        refine (Int.compare_eq_lt.2 ?_).symm
        split <;> omega
      · simp only [if_true]
        refine (Int.compare_eq_gt.2 ?_).symm
        split <;> omega
  · have ha' : rg a = INF := by omega
    by_cases fb : rg b < INF
    · obtain ⟨m, p, h1, _, _⟩ := read_fin fb
      unfold Format.order
      rw [h1, read_inf ha']
      simp only [Datum.order, Option.some.injEq]
      unfold ord
      rw [ha']
      cases hs : sg a
      · simp only [Bool.false_eq_true, if_false]
        refine (Int.compare_eq_gt.2 ?_).symm
        split <;> omega
      · simp only [if_true]
        refine (Int.compare_eq_lt.2 ?_).symm
        split <;> omega
    · have hb' : rg b = INF := by omega
      unfold Format.order
      rw [read_inf ha', read_inf hb']
      simp only [Datum.order, Option.some.injEq]
      unfold ord
      rw [ha', hb']
      have hp : 0 < INF := by decide
      cases hs : sg a <;> cases ht : sg b <;> simp only [Bool.false_eq_true, if_false, if_true, Bool.toNat_false, Bool.toNat_true]
      · exact (Int.compare_eq_eq.2 rfl).symm
      · exact (Int.compare_eq_gt.2 (by omega)).symm
      · exact (Int.compare_eq_lt.2 (by omega)).symm
      · exact (Int.compare_eq_eq.2 rfl).symm

/-! The comparisons, as Go has them. -/
def flt (a b : Nat) : Bool := decide (rg a ≤ INF ∧ rg b ≤ INF ∧ ord a < ord b)
def feq (a b : Nat) : Bool := decide (rg a ≤ INF ∧ rg b ≤ INF ∧ ord a = ord b)
def fle (a b : Nat) : Bool := decide (rg a ≤ INF ∧ rg b ≤ INF ∧ ord a ≤ ord b)

theorem order_cases (a b : Nat) : (D.order a b = none ∧ ¬ (rg a ≤ INF ∧ rg b ≤ INF)) ∨ ((rg a ≤ INF ∧ rg b ≤ INF) ∧
    ((D.order a b = some .lt ∧ ord a < ord b) ∨ (D.order a b = some .eq ∧ ord a = ord b) ∨ (D.order a b = some .gt ∧ ord b < ord a))) := by
  by_cases ha : rg a ≤ INF
  · by_cases hb : rg b ≤ INF
    · right
      refine ⟨⟨ha, hb⟩, ?_⟩
      rw [order_ord ha hb]
      rcases Int.lt_trichotomy (ord a) (ord b) with h | h | h
      · exact .inl ⟨by rw [Int.compare_eq_lt.2 h], h⟩
      · exact .inr (.inl ⟨by rw [Int.compare_eq_eq.2 h], h⟩)
      · exact .inr (.inr ⟨by rw [Int.compare_eq_gt.2 h], h⟩)
    · exact .inl ⟨order_nan_r (by omega), fun h => hb h.2⟩
  · exact .inl ⟨order_nan_l (by omega), fun h => ha h.1⟩

theorem order_lt (a b : Nat) : (FloatKind.f64.format.order a b == some Ordering.lt) = flt a b := by
  show (D.order a b == some Ordering.lt) = _
  unfold flt
  rcases order_cases a b with ⟨h, hn⟩ | ⟨hc, ⟨h, ho⟩ | ⟨h, ho⟩ | ⟨h, ho⟩⟩ <;> rw [h]
  · rw [decide_eq_false (fun h2 => hn ⟨h2.1, h2.2.1⟩)]; rfl
  · rw [decide_eq_true ⟨hc.1, hc.2, ho⟩]; rfl
  · rw [decide_eq_false (fun h2 => by omega)]; rfl
  · rw [decide_eq_false (fun h2 => by omega)]; rfl
theorem order_gt (a b : Nat) : (FloatKind.f64.format.order a b == some Ordering.gt) = flt b a := by
  show (D.order a b == some Ordering.gt) = _
  unfold flt
  rcases order_cases a b with ⟨h, hn⟩ | ⟨hc, ⟨h, ho⟩ | ⟨h, ho⟩ | ⟨h, ho⟩⟩ <;> rw [h]
  · rw [decide_eq_false (fun h2 => hn ⟨h2.2.1, h2.1⟩)]; rfl
  · rw [decide_eq_false (fun h2 => by omega)]; rfl
  · rw [decide_eq_false (fun h2 => by omega)]; rfl
  · rw [decide_eq_true ⟨hc.2, hc.1, ho⟩]; rfl
theorem order_eq (a b : Nat) : (FloatKind.f64.format.order a b == some Ordering.eq) = feq a b := by
  show (D.order a b == some Ordering.eq) = _
  unfold feq
  rcases order_cases a b with ⟨h, hn⟩ | ⟨hc, ⟨h, ho⟩ | ⟨h, ho⟩ | ⟨h, ho⟩⟩ <;> rw [h]
  · rw [decide_eq_false (fun h2 => hn ⟨h2.1, h2.2.1⟩)]; rfl
  · rw [decide_eq_false (fun h2 => by omega)]; rfl
  · rw [decide_eq_true ⟨hc.1, hc.2, ho⟩]; rfl
  · rw [decide_eq_false (fun h2 => by omega)]; rfl
theorem flt_or_feq (a b : Nat) : (flt a b || feq a b) = fle a b := by
  unfold flt feq fle
  rw [← Bool.decide_or, decide_eq_decide]
  omega
theorem feq_comm (a b : Nat) : feq a b = feq b a := by
  unfold feq; rw [decide_eq_decide]; omega
theorem order_le (a b : Nat) : (FloatKind.f64.format.order a b == some Ordering.lt || FloatKind.f64.format.order a b == some Ordering.eq) = fle a b := by
  rw [order_lt, order_eq, flt_or_feq]
theorem order_ge (a b : Nat) : (FloatKind.f64.format.order a b == some Ordering.gt || FloatKind.f64.format.order a b == some Ordering.eq) = fle b a := by
  rw [order_gt, order_eq, feq_comm, flt_or_feq]
theorem order_ne (a b : Nat) : (FloatKind.f64.format.order a b != some Ordering.eq) = !feq a b := by
  rw [← order_eq]; rfl

theorem flt_or_feq' (a b : Nat) : (flt b a || feq a b) = fle b a := by rw [feq_comm, flt_or_feq]

theorem ord_rg (b : Nat) : ord (rg b) = rg b := by
  have h := rg_lt b
  unfold ord
  have h1 : sg (rg b) = false := by unfold sg; rw [Nat.div_eq_of_lt h]; rfl
  have h2 : rg (rg b) = rg b := Nat.mod_eq_of_lt h
  rw [h1, h2]; rfl
theorem rg_rg (b : Nat) : rg (rg b) = rg b := Nat.mod_eq_of_lt (rg_lt b)
theorem sg_rg (b : Nat) : sg (rg b) = false := by unfold sg; rw [Nat.div_eq_of_lt (rg_lt b)]; rfl
theorem feq_zero (b : Nat) : feq b 0 = decide (rg b = 0) := by
  have h0 : ord 0 = 0 := by decide
  have h1 : rg 0 = 0 := by decide
  unfold feq
  rw [h0, h1, decide_eq_decide]
  have hI := INF_eq
  unfold ord
  constructor
  · rintro ⟨_, _, h⟩; split at h <;> omega
  · intro h; rw [h]; refine ⟨by omega, by omega, ?_⟩; split <;> rfl

end Lev

/- What a float is made of; the number nearest to it that frexp and ldexp make. -/
namespace Lev
open Ieee Go

/-- The whole number of a float. -/
def mantS (b : Nat) : Nat := if rg b < 4503599627370496 then rg b else 4503599627370496 + rg b % 4503599627370496
/-- Its exponent. -/
def expS (b : Nat) : Int := if rg b < 4503599627370496 then -1074 else (rg b / 4503599627370496 : Nat) - 1075
/-- The exponent of its highest digit. -/
def topS (b : Nat) : Int := (mantS b).log2 + expS b
/-- Its digits behind the highest one. -/
def fracS (b : Nat) : Nat := mantS b * 2 ^ (52 - (mantS b).log2) - 4503599627370496

theorem pow52 : (2 : Nat) ^ 52 = 4503599627370496 := by decide
theorem pow53 : (2 : Nat) ^ 53 = 9007199254740992 := by decide

theorem mantS_lt (b : Nat) : mantS b < 9007199254740992 := by unfold mantS; split <;> omega
theorem mantS_pos {b : Nat} (h : rg b ≠ 0) : 0 < mantS b := by unfold mantS; split <;> omega
theorem mantS_val (b : Nat) : (rm (rg b) : Rat) * pw (-1074) = (mantS b : Rat) * pw (expS b) := by
  unfold rm mantS expS
  by_cases h1 : rg b < 4503599627370496
  · rw [if_pos h1, if_pos h1, if_pos h1]
  · rw [if_neg h1, if_neg h1, if_neg h1, Rat.natCast_mul, ← pw_nat]
    have : ((rg b / 4503599627370496 : Nat) : Int) - 1075 = ((rg b / 4503599627370496 - 1 : Nat) : Int) + -1074 := by omega
    rw [this, pw_add]
    grind
theorem fv_mant (b : Nat) : ab (fv b) = (mantS b : Rat) * pw (expS b) := by rw [ab_fv, mantS_val]

theorem log2_eq {m k : Nat} (h1 : 2 ^ k ≤ m) (h2 : m < 2 ^ (k + 1)) : m.log2 = k := by
  have hm : m ≠ 0 := by have := Nat.two_pow_pos k; omega
  have a1 : 2 ^ m.log2 ≤ m := Nat.log2_self_le hm
  have a2 : m < 2 ^ (m.log2 + 1) := Nat.lt_log2_self
  rcases Nat.lt_trichotomy m.log2 k with h | h | h
  · have := Nat.pow_le_pow_right (n := 2) (by decide) (show m.log2 + 1 ≤ k by omega); omega
  · exact h
  · have := Nat.pow_le_pow_right (n := 2) (by decide) (show k + 1 ≤ m.log2 by omega); omega
theorem log2_lt {m k : Nat} (hm : m ≠ 0) (h2 : m < 2 ^ k) : m.log2 < k := by
  have a1 : 2 ^ m.log2 ≤ m := Nat.log2_self_le hm
  rcases Nat.lt_or_ge m.log2 k with h | h
  · exact h
  · have := Nat.pow_le_pow_right (n := 2) (by decide) h; omega

theorem lg_le {b : Nat} (h : rg b ≠ 0) : (mantS b).log2 ≤ 52 := by
  have := log2_lt (m := mantS b) (k := 53) (by have := mantS_pos h; omega) (by rw [pow53]; exact mantS_lt b)
  omega
/-- The number with its highest digit at place 52. -/
theorem shifted {b : Nat} (h : rg b ≠ 0) : 4503599627370496 ≤ mantS b * 2 ^ (52 - (mantS b).log2) ∧ mantS b * 2 ^ (52 - (mantS b).log2) < 9007199254740992 := by
  have hm := mantS_pos h
  have hl := lg_le h
  have a1 : 2 ^ (mantS b).log2 ≤ mantS b := Nat.log2_self_le (by omega)
  have a2 : mantS b < 2 ^ ((mantS b).log2 + 1) := Nat.lt_log2_self
  have hp := Nat.two_pow_pos (52 - (mantS b).log2)
  constructor
  · have h1 := Nat.mul_le_mul_right (2 ^ (52 - (mantS b).log2)) a1
    rw [← Nat.pow_add, show (mantS b).log2 + (52 - (mantS b).log2) = 52 by omega, pow52] at h1
    exact h1
  · have h1 := Nat.mul_lt_mul_of_pos_right a2 hp
    rw [← Nat.pow_add, show (mantS b).log2 + 1 + (52 - (mantS b).log2) = 53 by omega, pow53] at h1
    exact h1
theorem fracS_lt {b : Nat} (h : rg b ≠ 0) : fracS b < 4503599627370496 := by have := shifted h; unfold fracS; omega
theorem fracS_add {b : Nat} (h : rg b ≠ 0) : 4503599627370496 + fracS b = mantS b * 2 ^ (52 - (mantS b).log2) := by have := shifted h; unfold fracS; omega
theorem val_top {b : Nat} (h : rg b ≠ 0) : ab (fv b) = ((4503599627370496 + fracS b : Nat) : Rat) * pw (topS b - 52) := by
  have hl := lg_le h
  rw [fv_mant, fracS_add h, Rat.natCast_mul, ← pw_nat, Rat.mul_assoc, ← pw_add]
  congr 2
  unfold topS; omega

/-- The float made normal. -/
def nrm (b : Nat) : Nat := if rg b < 4503599627370496 then D.word (sg b) ((mantS b).log2 * 4503599627370496 + mantS b * 2 ^ (52 - (mantS b).log2)) else b
def nexp (b : Nat) : Int := if rg b < 4503599627370496 then -52 else 0

theorem lg_normal {b : Nat} (h : ¬ rg b < 4503599627370496) : (mantS b).log2 = 52 := by
  refine log2_eq ?_ ?_ <;> unfold mantS <;> rw [if_neg h]
  · rw [pow52]; omega
  · rw [pow53]; omega
theorem lg_sub {b : Nat} (h0 : rg b ≠ 0) (h : rg b < 4503599627370496) : (mantS b).log2 < 52 := by
  refine log2_lt ?_ ?_ <;> unfold mantS <;> rw [if_pos h]
  · exact h0
  · rw [pow52]; exact h

theorem sg_nrm {b : Nat} (h0 : rg b ≠ 0) : sg (nrm b) = sg b := by
  unfold nrm
  by_cases h : rg b < 4503599627370496
  · have := lg_sub h0 h
    have := shifted h0
    rw [if_pos h, sg_word _ _ (by omega)]
  · rw [if_neg h]
theorem nrm_lt {b : Nat} (hb : b < 18446744073709551616) (h0 : rg b ≠ 0) : nrm b < 18446744073709551616 := by
  unfold nrm
  by_cases h : rg b < 4503599627370496
  · have := lg_sub h0 h
    have := shifted h0
    rw [if_pos h]; exact word_lt64 _ _ (by omega)
  · rw [if_neg h]; exact hb
theorem rg_nrm_mod {b : Nat} (h0 : rg b ≠ 0) : rg (nrm b) % 4503599627370496 = fracS b := by
  unfold nrm fracS
  have hs := shifted h0
  by_cases h : rg b < 4503599627370496
  · have := lg_sub h0 h
    rw [if_pos h, rg_word _ _ (by omega)]; omega
  · rw [if_neg h, lg_normal h]
    unfold mantS
    rw [if_neg h]; omega
theorem rg_nrm_div {b : Nat} (h0 : rg b ≠ 0) : (rg (nrm b) / 4503599627370496 : Nat) + nexp b = topS b + 1023 := by
  unfold nrm nexp topS
  have hs := shifted h0
  by_cases h : rg b < 4503599627370496
  · have := lg_sub h0 h
    rw [if_pos h, if_pos h, rg_word _ _ (by omega)]
    unfold expS; rw [if_pos h]; omega
  · rw [if_neg h, if_neg h, lg_normal h]
    unfold expS; rw [if_neg h]; omega
theorem rg_nrm_ge {b : Nat} (h0 : rg b ≠ 0) : 1 ≤ rg (nrm b) / 4503599627370496 := by
  unfold nrm
  have hs := shifted h0
  by_cases h : rg b < 4503599627370496
  · have := lg_sub h0 h
    rw [if_pos h, rg_word _ _ (by omega)]; omega
  · rw [if_neg h]; omega
theorem topS_lo (b : Nat) : -1074 ≤ topS b := by
  unfold topS expS
  by_cases h : rg b < 4503599627370496
  · rw [if_pos h]; omega
  · rw [if_neg h]; omega
theorem topS_hi {b : Nat} (h : fin b) : topS b ≤ 1023 := by
  unfold topS expS
  have hI := INF_eq
  unfold fin at h
  by_cases h1 : rg b < 4503599627370496
  · rw [if_pos h1]
    by_cases h0 : rg b = 0
    · have : mantS b = 0 := by unfold mantS; rw [if_pos h1, h0]
      rw [this]; decide
    · have := lg_sub h0 h1; omega
  · rw [if_neg h1, lg_normal h1]; omega

/-- The word of a power of two. -/
theorem fv_pow (E : Nat) (h1 : 1 ≤ E) (h2 : E ≤ 2046) : fv (E * 4503599627370496) = pw ((E : Int) - 1023) := by
  have hI := INF_eq
  have e1 : rg (E * 4503599627370496) = E * 4503599627370496 := by unfold rg; omega
  have e2 : sg (E * 4503599627370496) = false := by rw [sg_lt (by omega)]; simp; omega
  unfold fv
  rw [e1, e2, sv_false]
  have h3 : E * 4503599627370496 = (E - 1) * 4503599627370496 + 4503599627370496 := by omega
  rw [h3, rm_seg (E - 1) 4503599627370496 (.inr (Nat.le_refl _)) (by decide), ← pow52, ← Nat.pow_add, ← pw_nat, ← pw_add]
  congr 1; omega
theorem fin_pow (E : Nat) (h2 : E ≤ 2046) : fin (E * 4503599627370496) := by unfold fin rg; have := INF_eq; omega

theorem c52 : fv 4841369599423283200 = pw 52 := fv_pow 1075 (by decide) (by decide)
theorem c53 : fv 4368491638549381120 = pw (-53) := fv_pow 970 (by decide) (by decide)
theorem c0 : fv 4607182418800017408 = pw 0 := fv_pow 1023 (by decide) (by decide)

/-- A product whose value is some float's is that float. -/
theorem mul_exact {a b r : Nat} (ha : fin a) (hb : fin b) (hr : r < INF) (h : ab (fv a * fv b) = (rm r : Rat) * pw (-1074)) : D.mul a b = some (D.word (sg a ^^ sg b) r) := by
  obtain ⟨s, h1, h2⟩ := mul_spec ha hb
  rw [h] at h2
  rw [h1, h2.unique (IsRnd.exact hr)]
theorem add_exact {a b r : Nat} (ha : fin a) (hb : fin b) (hr : r < INF) (h : ab (fv a + fv b) = (rm r : Rat) * pw (-1074)) : D.add a b = some (D.word (sumSg (sg a) (sg b) (fv a + fv b)) r) := by
  obtain ⟨s, h1, h2⟩ := add_spec ha hb
  rw [h] at h2
  rw [h1, h2.unique (IsRnd.exact hr)]

theorem ab_pw (k : Int) : ab (pw k) = pw k := by have := pw_pos k; unfold ab; rw [if_neg (by grind)]

theorem mul_norm {b : Nat} (h0 : rg b ≠ 0) (h : rg b < 4503599627370496) : D.mul b 4841369599423283200 = some (nrm b) := by
  have hI := INF_eq
  have hl := lg_sub h0 h
  have hs := shifted h0
  have hm := mul_exact (a := b) (b := 4841369599423283200) (r := (mantS b).log2 * 4503599627370496 + mantS b * 2 ^ (52 - (mantS b).log2))
    (by unfold fin; omega) (by decide) (by omega) (by
      rw [ab_mul, c52, ab_pw, fv_mant, rm_seg _ _ (.inr hs.1) (by omega), Nat.mul_assoc, ← Nat.pow_add, show 52 - (mantS b).log2 + (mantS b).log2 = 52 by omega,
        Rat.natCast_mul, ← pw_nat]
      have : expS b = -1074 := by unfold expS; rw [if_pos h]
      rw [this]
      have e : ((52 : Nat) : Int) = 52 := rfl
      rw [e]; grind)
  rw [hm]
  unfold nrm
  rw [if_pos h]
  have : sg 4841369599423283200 = false := by decide
  rw [this, Bool.xor_false]

/-- The nearest number, as a function. -/
def rr (x : Rat) : Nat := match Datum.quotient 54 (.number false x.num.natAbs 0) (.number false x.den 0) with
  | some d => D.write d
  | none => 0
theorem word_false (r : Nat) : D.word false r = r := by rw [word_eq]; simp
theorem rr_spec {x : Rat} (h : 0 ≤ x) : IsRnd x (rr x) := by
  have hd : 0 < x.den := x.den_pos
  have hx : ((x.num.natAbs : Nat) : Rat) * pw 0 / ((x.den : Rat) * pw 0) = x := by
    rw [pw_zero, Rat.mul_one, Rat.mul_one]
    have h1 : ((x.num.natAbs : Nat) : Rat) = (x.num : Rat) := by
      have h2 : (x.num.natAbs : Int) = x.num := by have := Rat.num_nonneg.2 h; omega
      rw [← Rat.intCast_natCast, h2]
    rw [h1, ← Rat.mkRat_eq_div, Rat.mkRat_self]
  by_cases h0 : x.num = 0
  · have hx0 : x = 0 := Rat.num_eq_zero.1 h0
    subst hx0
    have : rr 0 = 0 := by decide
    rw [this]; exact .zero
  · obtain ⟨r, hr1, hr2⟩ := quotient_spec false false x.num.natAbs x.den 0 0 (by omega) hd
    rw [hx] at hr2
    unfold rr
    cases hq : Datum.quotient 54 (.number false x.num.natAbs 0) (.number false x.den 0) with
    | none => rw [hq] at hr1; cases hr1
    | some d =>
      rw [hq] at hr1
      simp only [Option.map_some, Option.some.injEq] at hr1
      simp only
      rw [hr1]
      have : D.word (false ^^ false) r = r := word_false r
      rw [this]; exact hr2
theorem IsRnd.eq_rr {x : Rat} {r : Nat} (h : IsRnd x r) (h0 : 0 ≤ x) : r = rr x := h.unique (rr_spec h0)

end Lev

/- What ldexp comes to: the number nearest to a float times a power of two. -/
namespace Lev
open Ieee Go

/-- A float times 2 to the power of k, rounded. -/
def ldS (b : Nat) (k : Int) : Nat := D.word (sg b) (rr (ab (fv b) * pw k))

theorem rm_pow (e : Nat) : (rm (e * 4503599627370496 + 4503599627370496) : Rat) * pw (-1074) = pw ((e : Int) + 52 + -1074) := by
  rw [rm_seg e 4503599627370496 (.inr (Nat.le_refl _)) (by decide), ← pow52, ← Nat.pow_add, ← pw_nat, ← pw_add]
  congr 1; omega
theorem rm_inf : (rm INF : Rat) * pw (-1074) = pw 1024 := by
  have h : INF = 2046 * 4503599627370496 + 4503599627370496 := by decide
  rw [h]; exact rm_pow 2046

theorem pw_le {a b : Int} (h : a ≤ b) : pw a ≤ pw b := by
  obtain ⟨d, hd⟩ : ∃ d : Nat, b = a + d := ⟨(b - a).toNat, by omega⟩
  rw [hd, pw_add, pw_nat]
  have h4 : (1 : Rat) ≤ ((2 ^ d : Nat) : Rat) := by
    have : ((1 : Nat) : Rat) ≤ ((2 ^ d : Nat) : Rat) := cast_le.2 (Nat.two_pow_pos d)
    simpa using this
  have h5 := Rat.mul_le_mul_of_nonneg_left h4 (Rat.le_of_lt (pw_pos a))
  grind
theorem pw_lt {a b : Int} (h : a < b) : pw a < pw b := by
  have h1 := pw_le (show a + 1 ≤ b by omega)
  have h2 : pw (a + 1) = pw a * 2 := by rw [pw_add]; congr 1
  have := pw_pos a
  grind
theorem pw52 : pw 52 = ((4503599627370496 : Nat) : Rat) := by rw [show (52 : Int) = ((52 : Nat) : Int) from rfl, pw_nat]
theorem pw53 : pw 53 = ((9007199254740992 : Nat) : Rat) := by rw [show (53 : Int) = ((53 : Nat) : Int) from rfl, pw_nat]

/-- A number's size lies between its highest digit's power of two and the next one. -/
theorem val_ge {b : Nat} (h : rg b ≠ 0) : pw (topS b) ≤ ab (fv b) := by
  rw [val_top h]
  have h1 : pw (topS b) = pw 52 * pw (topS b - 52) := by rw [← pw_add]; congr 1; omega
  rw [h1, pw52]
  exact Rat.mul_le_mul_of_nonneg_right (cast_le.2 (by omega)) (Rat.le_of_lt (pw_pos _))
theorem val_lt {b : Nat} (h : rg b ≠ 0) : ab (fv b) < pw (topS b + 1) := by
  rw [val_top h]
  have h1 : pw (topS b + 1) = pw 53 * pw (topS b - 52) := by rw [← pw_add]; congr 1; omega
  rw [h1, pw53]
  have := fracS_lt h
  exact Rat.mul_lt_mul_of_pos_right (cast_lt.2 (by omega)) (pw_pos _)

theorem mul_pw_ge {b : Nat} {k : Int} (h : rg b ≠ 0) : pw (topS b + k) ≤ ab (fv b) * pw k := by
  rw [pw_add]; exact Rat.mul_le_mul_of_nonneg_right (val_ge h) (Rat.le_of_lt (pw_pos _))
theorem mul_pw_lt {b : Nat} {k : Int} (h : rg b ≠ 0) : ab (fv b) * pw k < pw (topS b + 1 + k) := by
  rw [pw_add (topS b + 1)]; exact Rat.mul_lt_mul_of_pos_right (val_lt h) (pw_pos _)
theorem mul_pw_nonneg (b : Nat) (k : Int) : 0 ≤ ab (fv b) * pw k := Rat.mul_nonneg (ab_nonneg _) (Rat.le_of_lt (pw_pos _))

theorem pw_double (k : Int) : pw (k + 1) = 2 * pw k := by
  rw [Int.add_comm, pw_add]; congr 1

theorem isRnd_low {x : Rat} (h : x < pw (-1075)) : IsRnd x 0 := by
  have hm : (mid2 0 : Rat) * pw (-1074) = pw (-1074) := by
    have : mid2 0 = 1 := by decide
    rw [this]; exact Rat.one_mul _
  refine ⟨by decide, fun _ => ?_, fun h0 => absurd h0 (by decide)⟩
  rw [hm, half_unit]
  exact ⟨by grind, fun _ => rfl⟩
theorem isRnd_high {x : Rat} (h : pw 1024 ≤ x) : IsRnd x INF := by
  refine ⟨Nat.le_refl _, fun h0 => absurd h0 (Nat.lt_irrefl _), fun _ => ?_⟩
  have h1 : mid2 (INF - 1) ≤ 2 * rm INF := by
    have h2 : INF - 1 + 1 = INF := by decide
    have h3 := rm_lt_succ (INF - 1)
    unfold mid2
    rw [h2] at h3 ⊢
    omega
  have h2 := unit_le.2 h1
  have h3 : ((2 * rm INF : Nat) : Rat) * pw (-1074) = 2 * pw 1024 := by rw [← rm_inf, Rat.natCast_mul, two_cast]; grind
  rw [h3] at h2
  exact ⟨by grind, fun _ => INF_even⟩

theorem ldS_low {b : Nat} {k : Int} (h : rg b ≠ 0) (hk : topS b + k < -1075) : ldS b k = D.word (sg b) 0 := by
  have h1 : ab (fv b) * pw k < pw (-1075) := by
    have h2 := mul_pw_lt (k := k) h
    have h3 := pw_le (show topS b + 1 + k ≤ -1075 by omega)
    grind
  unfold ldS
  rw [← (isRnd_low h1).eq_rr (mul_pw_nonneg _ _)]
theorem ldS_high {b : Nat} {k : Int} (h : rg b ≠ 0) (hk : 1023 < topS b + k) : ldS b k = D.word (sg b) INF := by
  have h1 : pw 1024 ≤ ab (fv b) * pw k := Rat.le_trans (pw_le (by omega)) (mul_pw_ge h)
  unfold ldS
  rw [← (isRnd_high h1).eq_rr (mul_pw_nonneg _ _)]

/-- The float of exponent E and the digits of b. -/
def zfl (b E : Nat) : Nat := D.word (sg b) (E * 4503599627370496 + fracS b)
theorem zfl_lt {b E : Nat} (h : rg b ≠ 0) (h2 : E ≤ 2046) : E * 4503599627370496 + fracS b < INF := by
  have := fracS_lt h; have := INF_eq; omega
theorem zfl_fin {b E : Nat} (h : rg b ≠ 0) (h2 : E ≤ 2046) : fin (zfl b E) := by
  have h3 := zfl_lt h h2
  unfold fin zfl
  rw [rg_word _ _ (Nat.lt_trans h3 (by decide))]; exact h3
theorem zfl_rm {b E : Nat} (h : rg b ≠ 0) (h1 : 1 ≤ E) : rm (E * 4503599627370496 + fracS b) = (4503599627370496 + fracS b) * 2 ^ (E - 1) := by
  have := fracS_lt h
  have e : E * 4503599627370496 + fracS b = (E - 1) * 4503599627370496 + (4503599627370496 + fracS b) := by omega
  rw [e, rm_seg _ _ (.inr (by omega)) (by omega)]
theorem zfl_val {b E : Nat} (h : rg b ≠ 0) (h1 : 1 ≤ E) : (rm (E * 4503599627370496 + fracS b) : Rat) * pw (-1074) = ab (fv b) * pw ((E : Int) - 1023 - topS b) := by
  rw [zfl_rm h h1, val_top h, Rat.natCast_mul, ← pw_nat, Rat.mul_assoc, ← pw_add, Rat.mul_assoc, ← pw_add]
  congr 2; omega

theorem ldS_normal {b : Nat} {k : Int} {E : Nat} (h : rg b ≠ 0) (h1 : 1 ≤ E) (h2 : E ≤ 2046) (hE : (E : Int) = topS b + k + 1023) : ldS b k = zfl b E := by
  have h3 := zfl_val h h1
  have h4 : (E : Int) - 1023 - topS b = k := by omega
  rw [h4] at h3
  unfold ldS zfl
  rw [← h3, ← (IsRnd.exact (zfl_lt h h2)).eq_rr (by rw [h3]; exact mul_pw_nonneg _ _)]
theorem one_mul_zfl {b E : Nat} (h : rg b ≠ 0) (h2 : E ≤ 2046) : D.mul 4607182418800017408 (zfl b E) = some (zfl b E) := by
  have h3 := zfl_lt h h2
  have e : rg (zfl b E) = E * 4503599627370496 + fracS b := rg_word _ _ (Nat.lt_trans h3 (by decide))
  have hm := mul_exact (a := 4607182418800017408) (b := zfl b E) (r := E * 4503599627370496 + fracS b) (by decide) (zfl_fin h h2) h3 (by
    rw [ab_mul, c0, ab_pw, pw_zero, Rat.one_mul, ab_fv, e])
  rw [hm]
  have e2 : sg (zfl b E) = sg b := sg_word _ _ (Nat.lt_trans h3 (by decide))
  have e3 : sg 4607182418800017408 = false := by decide
  rw [e2, e3, Bool.false_xor]; rfl
theorem ldS_denormal {b : Nat} {k : Int} {E : Nat} (h : rg b ≠ 0) (h1 : 1 ≤ E) (h2 : E ≤ 2046) (hE : (E : Int) = topS b + k + 53 + 1023) : D.mul 4368491638549381120 (zfl b E) = some (ldS b k) := by
  have h3 := zfl_lt h h2
  have e : rg (zfl b E) = E * 4503599627370496 + fracS b := rg_word _ _ (Nat.lt_trans h3 (by decide))
  obtain ⟨r, hr1, hr2⟩ := mul_spec (a := 4368491638549381120) (b := zfl b E) (by decide) (zfl_fin h h2)
  have hv : ab (fv 4368491638549381120 * fv (zfl b E)) = ab (fv b) * pw k := by
    rw [ab_mul, c53, ab_pw, ab_fv, e, zfl_val h h1, Rat.mul_comm, Rat.mul_assoc, ← pw_add]
    congr 2; omega
  rw [hv] at hr2
  have e2 : sg (zfl b E) = sg b := sg_word _ _ (Nat.lt_trans h3 (by decide))
  have e3 : sg 4368491638549381120 = false := by decide
  rw [hr1, e2, e3, Bool.false_xor]
  unfold ldS
  rw [hr2.eq_rr (mul_pw_nonneg _ _)]

theorem ldS_zero {b : Nat} (k : Int) (hb : b < 18446744073709551616) (h : rg b = 0) : ldS b k = b := by
  have : ab (fv b) = 0 := by rw [ab_fv, h, rm_zero]; exact Rat.zero_mul _
  unfold ldS
  rw [this, Rat.zero_mul, ← (IsRnd.zero).eq_rr (by decide), ← h, word_sg_rg b hb]
theorem ldS_lt (b : Nat) (k : Int) : ldS b k < 18446744073709551616 := word_lt64 _ _ (rr_spec (mul_pw_nonneg b k)).lt63

theorem flt_zero {x : Nat} (hf : rg x ≤ INF) (h : rg x ≠ 0) : flt x 0 = sg x := by
  have h0 : ord 0 = 0 := by decide
  have h1 : rg 0 = 0 := by decide
  unfold flt
  rw [h0, h1]
  unfold ord
  cases sg x
  · exact decide_eq_false (fun hh => by have := hh.2.2; simp at this; omega)
  · exact decide_eq_true ⟨hf, Nat.zero_le _, by simp; omega⟩

end Lev

/- What package bits tells of a float, as plain functions. -/
namespace Lev
open Ieee Go

/-- Its kind: 3 is no number, 2 is an infinity, 0 a zero, 1 any other. -/
def kindS (b : Nat) : Int := if INF < rg b then 3 else if rg b = INF then 2 else if rg b = 0 then 0 else 1
theorem kindS_nan {b : Nat} (h : INF < rg b) : kindS b = 3 := by unfold kindS; rw [if_pos h]
theorem kindS_inf {b : Nat} (h : rg b = INF) : kindS b = 2 := by unfold kindS; rw [if_neg (by omega), if_pos h]
theorem kindS_zero {b : Nat} (h : rg b = 0) : kindS b = 0 := by have := INF_eq; unfold kindS; rw [if_neg (by omega), if_neg (by omega), if_pos h]
theorem kindS_fin {b : Nat} (hf : fin b) (h : rg b ≠ 0) : kindS b = 1 := by unfold fin at hf; unfold kindS; rw [if_neg (by omega), if_neg (by omega), if_neg h]
theorem kindS_le {b : Nat} : kindS b ≤ 1 ↔ fin b := by
  have := INF_eq
  unfold kindS fin; split
  · constructor <;> intro _ <;> omega
  · split
    · constructor <;> intro _ <;> omega
    · split <;> constructor <;> intro _ <;> omega
theorem kindS_bounds (b : Nat) : 0 ≤ kindS b ∧ kindS b ≤ 3 := by
  unfold kindS
  repeat' split
  all_goals omega

/-- The exponent of the highest digit, of floats that are no zeros. -/
def topB (b : Nat) : Int := if kindS b = 1 then topS b else -2000

theorem mantS_rg (b : Nat) : mantS (rg b) = mantS b := by unfold mantS; rw [rg_rg]
theorem expS_rg (b : Nat) : expS (rg b) = expS b := by unfold expS; rw [rg_rg]
theorem topS_rg (b : Nat) : topS (rg b) = topS b := by unfold topS; rw [mantS_rg, expS_rg]
theorem fracS_rg (b : Nat) : fracS (rg b) = fracS b := by unfold fracS; rw [mantS_rg]
theorem fin_rg {b : Nat} (h : fin b) : fin (rg b) := by unfold fin; rw [rg_rg]; exact h

theorem frac_word (b : Nat) : D.word (sg (rg b)) (1022 * 4503599627370496 + fracS (rg b)) = 1022 * 4503599627370496 + fracS b := by
  rw [sg_rg, word_false, fracS_rg]

/-- The part of Frexp, as a float. -/
def partF (b : Nat) : Nat := 1022 * 4503599627370496 + fracS b
theorem partF_facts {b : Nat} (h : rg b ≠ 0) : partF b < 9223372036854775808 ∧ 4503599627370496 ≤ partF b ∧ rg (partF b) = partF b ∧ sg (partF b) = false ∧ fin (partF b) ∧ fracS (partF b) = fracS b ∧ topS (partF b) = -1 := by
  have hf := fracS_lt h
  have hI := INF_eq
  have h1 : partF b < 9223372036854775808 := by unfold partF; omega
  have h2 : rg (partF b) = partF b := Nat.mod_eq_of_lt h1
  have h3 : 4503599627370496 ≤ partF b := by unfold partF; omega
  have h4 : ¬ rg (partF b) < 4503599627370496 := by omega
  have h5 : sg (partF b) = false := by unfold sg; rw [Nat.div_eq_of_lt h1]; rfl
  have h6 : mantS (partF b) = 4503599627370496 + fracS b := by unfold mantS; rw [if_neg h4, h2]; unfold partF; omega
  refine ⟨h1, h3, h2, h5, by unfold fin; rw [h2]; unfold partF; omega, ?_, ?_⟩
  · unfold fracS
    rw [lg_normal h4, h6, Nat.sub_self, Nat.pow_zero, Nat.mul_one]
    unfold fracS; omega
  · unfold topS expS
    rw [lg_normal h4, if_neg h4, h2]; unfold partF; omega

/-- What Ldexp makes of that part: a whole number. -/
theorem part_ldS {b : Nat} (h : rg b ≠ 0) : ldS (partF b) 53 = 1075 * 4503599627370496 + fracS b := by
  obtain ⟨h1, h2, h3, h4, h5, h6, h7⟩ := partF_facts h
  rw [ldS_normal (E := 1075) (by omega) (by decide) (by decide) (by rw [h7]; decide)]
  unfold zfl
  rw [h4, h6, word_false]

theorem toInt_whole {f : Nat} (h : f < 4503599627370496) : floatToIntVal .f64 (1075 * 4503599627370496 + f) .u64 = some ((4503599627370496 + f : Nat) : Int) := by
  have hI := INF_eq
  have e1 : rg (1075 * 4503599627370496 + f) = 1075 * 4503599627370496 + f := by unfold rg; omega
  have e2 : sg (1075 * 4503599627370496 + f) = false := by unfold sg; rw [Nat.div_eq_of_lt (by omega)]; rfl
  have hr : D.read (1075 * 4503599627370496 + f) = .number false (4503599627370496 + f) 0 := by
    rw [read_eq, e1, e2, if_neg (by omega), if_pos (by omega)]
    have q1 : (1075 * 4503599627370496 + f) % 4503599627370496 = f := by omega
    have q2 : (-1074 : Int) + ((1075 * 4503599627370496 + f) / 4503599627370496 - 1 : Nat) = 0 := by omega
    rw [q1, q2]
  have hd : FloatKind.f64.decode (1075 * 4503599627370496 + f) = .number false (4503599627370496 + f) 0 := hr
  unfold floatToIntVal
  rw [hd]
  have ht : (Datum.number false (4503599627370496 + f) 0).toInt .zero = some ((4503599627370496 + f : Nat) : Int) := by
    unfold Datum.toInt Datum.integral Toward.cut
    simp [signed]
  rw [ht]
  simp only
  rw [if_pos]
  have e3 : IntKind.u64.min = 0 := rfl
  have e4 : IntKind.u64.max = 18446744073709551615 := rfl
  rw [e3, e4]; omega

/-- Halved again and again the whole number is the float's own. -/
theorem halved {b : Nat} (h : rg b ≠ 0) : (4503599627370496 + fracS b) / 2 ^ (52 - (mantS b).log2) = mantS b := by
  rw [fracS_add h, Nat.mul_div_cancel _ (Nat.two_pow_pos _)]
theorem expS_top {b : Nat} : topS b - 52 + (52 - (mantS b).log2 : Nat) = expS b ∨ 52 < (mantS b).log2 := by unfold topS; omega
theorem expS_ge (b : Nat) : -1074 ≤ expS b := by unfold expS; split <;> omega
theorem lg_exp (b : Nat) : (mantS b).log2 = 52 ∨ expS b = -1074 := by
  by_cases h : rg b < 4503599627370496
  · right; unfold expS; rw [if_pos h]
  · left; exact lg_normal h

theorem halving_ends {b j : Nat} (h0 : rg b ≠ 0) (h1 : ¬ topS b + 1 - 53 + (j : Int) < -1074) (h2 : j = 0 ∨ topS b + 1 - 53 + (j : Int) ≤ -1074) :
    (4503599627370496 + fracS b) / 2 ^ j = mantS b ∧ topS b + 1 - 53 + (j : Int) = expS b := by
  have hl := lg_le h0
  have he := expS_ge b
  have hlg := lg_exp b
  have hj : j = 52 - (mantS b).log2 := by unfold topS at h1 h2; omega
  refine ⟨by rw [hj]; exact halved h0, ?_⟩
  unfold topS; omega

/-- The three other things that Split tells. -/
def nS (b : Nat) : Bool := decide (kindS b ≠ 3) && sg b
def mS (b : Nat) : Nat := if kindS b = 1 then mantS b else 0
def eS (b : Nat) : Int := if kindS b = 1 then expS b else 0

/-! Being the same. -/
/-- The word that stands for all that are no numbers. -/
def nanc : Nat := 9221120237041090561
def cn (b : Nat) : Nat := if INF < rg b then nanc else b
def sameS (a b : Nat) : Bool := cn a == cn b
theorem cn_nan {b : Nat} (h : INF < rg b) : cn b = nanc := by unfold cn; rw [if_pos h]
theorem cn_num {b : Nat} (h : ¬ INF < rg b) : cn b = b := by unfold cn; rw [if_neg h]
theorem nanc_nan : INF < rg nanc := by decide
theorem sameS_eq (a b : Nat) : sameS a b = (((!feq a a) && (!feq b b)) || ((a : Int) == (b : Int))) := by
  have e : ∀ x : Nat, (!feq x x) = decide (INF < rg x) := fun x => by unfold feq; rw [← decide_not, decide_eq_decide]; omega
  rw [e, e]
  have hab : ((a : Int) == (b : Int)) = decide (a = b) := by
    rw [Bool.eq_iff_iff]; simp; omega
  rw [hab]
  unfold sameS
  by_cases ha : INF < rg a
  · by_cases hb : INF < rg b
    · rw [cn_nan ha, cn_nan hb]; simp [ha, hb]
    · rw [cn_nan ha, cn_num hb]
      have h1 : nanc ≠ b := fun h => hb (h ▸ nanc_nan)
      have h2 : a ≠ b := fun h => hb (h ▸ ha)
      simp [ha, hb, h1, h2]
  · by_cases hb : INF < rg b
    · rw [cn_num ha, cn_nan hb]
      have h1 : a ≠ nanc := fun h => ha (h ▸ nanc_nan)
      have h2 : a ≠ b := fun h => ha (h ▸ hb)
      simp [ha, hb, h1, h2]
    · rw [cn_num ha, cn_num hb]; simp [ha, hb]
      rw [Bool.eq_iff_iff]; simp

/-- Is it as great as it may be? -/
def inS (b : Nat) : Bool := decide (rg b = 0 ∨ (2805742567851819008 ≤ rg b ∧ rg b ≤ 6408622269748215808))

end Lev

/- Which numbers are floats: what package bits makes. -/
namespace Lev
open Ieee Go

/-- A number that is some float's size. -/
def rep (V : Rat) : Prop := ∃ r, r < INF ∧ (rm r : Rat) * pw (-1074) = V

theorem rep_up : ∀ (n M E : Nat), M < 9007199254740992 → E ≤ 2045 → n = E → ∃ r, r < INF ∧ rm r = M * 2 ^ E
  | 0, M, E, hM, hE, hn => by
    have hI := INF_eq
    have h0 : E = 0 := by omega
    subst h0
    refine ⟨M, by omega, ?_⟩
    have := rm_seg 0 M (.inl rfl) (by omega)
    simpa using this
  | n + 1, M, E, hM, hE, hn => by
    have hI := INF_eq
    by_cases h1 : M < 4503599627370496
    · obtain ⟨r, hr1, hr2⟩ := rep_up n (2 * M) (E - 1) (by omega) (by omega) (by omega)
      refine ⟨r, hr1, ?_⟩
      obtain ⟨F, rfl⟩ : ∃ F, E = F + 1 := ⟨E - 1, by omega⟩
      rw [hr2, Nat.add_sub_cancel, Nat.pow_succ, Nat.mul_comm 2 M, Nat.mul_assoc, Nat.mul_comm 2 (2 ^ F)]
    · exact ⟨E * 4503599627370496 + M, by omega, rm_seg E M (.inr (by omega)) (by omega)⟩

theorem rep_yes {M : Nat} {E : Int} (hM : M < 9007199254740992) (h1 : -1074 ≤ E) (h2 : E ≤ 971) : rep ((M : Rat) * pw E) := by
  obtain ⟨F, hF⟩ : ∃ F : Nat, E = (F : Int) + -1074 := ⟨(E + 1074).toNat, by omega⟩
  obtain ⟨r, hr1, hr2⟩ := rep_up F M F hM (by omega) rfl
  refine ⟨r, hr1, ?_⟩
  rw [hr2, hF, pw_add, Rat.natCast_mul, ← pw_nat]
  grind

theorem rep_no_big {V : Rat} (h : pw 1024 ≤ V) : ¬ rep V := by
  rintro ⟨r, hr1, rfl⟩
  have h1 := unit_lt.2 (rm_strict hr1)
  rw [rm_inf] at h1
  grind

theorem rep_no_small {V : Rat} (h0 : 0 < V) (h : V < pw (-1074)) : ¬ rep V := by
  rintro ⟨r, hr1, rfl⟩
  rcases Nat.eq_zero_or_pos r with h1 | h1
  · rw [h1, rm_zero] at h0
    exact absurd h0 (by rw [show ((0 : Nat) : Rat) = 0 from rfl, Rat.zero_mul]; exact Rat.lt_irrefl)
  · have h2 := rm_pos h1
    have h3 : ((1 : Nat) : Rat) * pw (-1074) ≤ (rm r : Rat) * pw (-1074) := unit_le.2 h2
    rw [show ((1 : Nat) : Rat) = 1 from rfl, Rat.one_mul] at h3
    grind

theorem cancel_pw {a b : Nat} {k : Int} (h : (a : Rat) * pw k = (b : Rat) * pw k) : a = b := by
  have h1 := cast_le.1 (Rat.le_of_mul_le_mul_right (le_of_eqR h) (pw_pos k))
  have h2 := cast_le.1 (Rat.le_of_mul_le_mul_right (le_of_eqR h.symm) (pw_pos k))
  omega

theorem rep_no_odd {M : Nat} {E : Int} (hodd : M % 2 = 1) (h : E < -1074 ∨ 9007199254740992 ≤ M) : ¬ rep ((M : Rat) * pw E) := by
  rintro ⟨r, hr1, hr2⟩
  rcases Int.lt_or_le E (-1074) with h1 | h1
  · obtain ⟨d, hd⟩ : ∃ d : Nat, (-1074 : Int) = (d + 1 : Nat) + E := ⟨(-1074 - E - 1).toNat, by omega⟩
    rw [hd, pw_add, pw_nat, ← Rat.mul_assoc, ← Rat.natCast_mul] at hr2
    have h2 := cancel_pw hr2
    rw [Nat.pow_succ, ← Nat.mul_assoc] at h2
    omega
  · have h3 : 9007199254740992 ≤ M := by omega
    obtain ⟨F, hF⟩ : ∃ F : Nat, E = (F : Int) + -1074 := ⟨(E + 1074).toNat, by omega⟩
    rw [hF, pw_add, pw_nat, ← Rat.mul_assoc, ← Rat.natCast_mul] at hr2
    have h2 := cancel_pw hr2
    obtain ⟨s, k, rfl, hs, hk⟩ := rung_seg r
    rw [rm_seg s k hs (by omega)] at h2
    rcases Nat.lt_or_ge s F with h4 | h4
    · obtain ⟨d, rfl⟩ : ∃ d, F = s + d := ⟨F - s, by omega⟩
      rw [Nat.pow_add, Nat.mul_comm (2 ^ s), ← Nat.mul_assoc] at h2
      have h5 := Nat.eq_of_mul_eq_mul_right (Nat.two_pow_pos s) h2
      have h6 := Nat.le_mul_of_pos_right M (Nat.two_pow_pos d)
      omega
    · obtain ⟨d, rfl⟩ : ∃ d, s = F + d := ⟨s - F, by omega⟩
      rw [Nat.pow_add, Nat.mul_comm (2 ^ F), ← Nat.mul_assoc] at h2
      have h5 := Nat.eq_of_mul_eq_mul_right (Nat.two_pow_pos F) h2
      rcases Nat.eq_zero_or_pos d with h6 | h6
      · subst h6; simp at h5; omega
      · obtain ⟨d', rfl⟩ : ∃ d', d = d' + 1 := ⟨d - 1, by omega⟩
        rw [Nat.pow_succ, ← Nat.mul_assoc] at h5
        omega

/-- What bits.Make answers. -/
def makeB (m : Nat) (e : Int) : Bool := decide (m = 0) || (decide (rr ((m : Rat) * pw e) < INF) && decide ((rm (rr ((m : Rat) * pw e)) : Rat) * pw (-1074) = (m : Rat) * pw e))
def makeF (neg : Bool) (m : Nat) (e : Int) : Nat := if m = 0 then D.word neg 0 else if makeB m e then D.word neg (rr ((m : Rat) * pw e)) else 0

theorem mpw_nonneg (m : Nat) (e : Int) : 0 ≤ (m : Rat) * pw e := Rat.mul_nonneg Rat.natCast_nonneg (Rat.le_of_lt (pw_pos _))
theorem make_yes {neg : Bool} {m : Nat} {e : Int} {r : Nat} (hr : r < INF) (h : (rm r : Rat) * pw (-1074) = (m : Rat) * pw e) : makeB m e = true ∧ makeF neg m e = D.word neg r := by
  have h1 : rr ((m : Rat) * pw e) = r := by
    rw [← h]; exact ((IsRnd.exact hr).eq_rr (by rw [h]; exact mpw_nonneg _ _)).symm
  have hb : makeB m e = true := by
    unfold makeB
    rw [h1, decide_eq_true hr, decide_eq_true h]; simp
  refine ⟨hb, ?_⟩
  unfold makeF
  by_cases hm : m = 0
  · rw [if_pos hm]
    subst hm
    have : r = 0 := by
      rw [← h1, show ((0 : Nat) : Rat) = 0 from rfl, Rat.zero_mul]; exact (IsRnd.zero.eq_rr (by decide)).symm
    rw [this]
  · rw [if_neg hm, if_pos hb, h1]
theorem make_no {m : Nat} {e : Int} (hm : m ≠ 0) (h : ¬ rep ((m : Rat) * pw e)) : makeB m e = false ∧ ∀ neg, makeF neg m e = 0 := by
  have hb : makeB m e = false := by
    unfold makeB
    rw [decide_eq_false hm]
    by_cases h1 : rr ((m : Rat) * pw e) < INF
    · have h2 : ¬ (rm (rr ((m : Rat) * pw e)) : Rat) * pw (-1074) = (m : Rat) * pw e := fun h3 => h ⟨_, h1, h3⟩
      rw [decide_eq_false h2]; simp
    · rw [decide_eq_false h1]; simp
  refine ⟨hb, fun neg => ?_⟩
  unfold makeF
  rw [if_neg hm, if_neg (by rw [hb]; decide)]
theorem make_lt (neg : Bool) (m : Nat) (e : Int) : makeF neg m e < 18446744073709551616 := by
  unfold makeF
  split
  · exact word_lt64 _ _ (by decide)
  · split
    · exact word_lt64 _ _ (rr_spec (mpw_nonneg m e)).lt63
    · decide

theorem rep_no_far {m : Nat} {e : Int} (h0 : m ≠ 0) (hm : m < 18446744073709551616) (h : e < -2000 ∨ 2000 < e) : ¬ rep ((m : Rat) * pw e) := by
  have h1 : (1 : Rat) ≤ (m : Rat) := by
    have : ((1 : Nat) : Rat) ≤ (m : Rat) := cast_le.2 (by omega)
    simpa using this
  have hp := pw_pos e
  rcases h with h | h
  · refine rep_no_small ?_ ?_
    · exact Rat.mul_pos (by grind) hp
    · have h2 : (m : Rat) < pw 64 := by
        rw [show (64 : Int) = ((64 : Nat) : Int) from rfl, pw_nat]; exact cast_lt.2 hm
      have h3 := Rat.mul_lt_mul_of_pos_right h2 hp
      rw [← pw_add] at h3
      have h4 := pw_le (show 64 + e ≤ -1074 by omega)
      grind
  · refine rep_no_big ?_
    have h2 := Rat.mul_le_mul_of_nonneg_right h1 (Rat.le_of_lt hp)
    have h3 := pw_le (show 1024 ≤ e by omega)
    grind

/-- The loops' end in bits.fit. -/
theorem fit_no {M : Nat} {E : Int} (h1 : M % 2 = 1 ∨ 971 ≤ E) (h2 : ¬ (971 < E ∧ M < 4503599627370496)) (h : ¬ (M < 9007199254740992 ∧ -1074 ≤ E ∧ E ≤ 971)) : ¬ rep ((M : Rat) * pw E) := by
  by_cases c1 : 971 < E
  · refine rep_no_big ?_
    have h3 : ((4503599627370496 : Nat) : Rat) * pw E ≤ (M : Rat) * pw E := Rat.mul_le_mul_of_nonneg_right (cast_le.2 (by omega)) (Rat.le_of_lt (pw_pos _))
    rw [← pw52, ← pw_add] at h3
    have h4 := pw_le (show 1024 ≤ 52 + E by omega)
    grind
  · by_cases c2 : E < -1074
    · exact rep_no_odd (by omega) (.inl c2)
    · have h3 : 9007199254740992 ≤ M := by omega
      rcases h1 with h1 | h1
      · exact rep_no_odd h1 (.inr h3)
      · refine rep_no_big ?_
        have h4 : ((9007199254740992 : Nat) : Rat) * pw E ≤ (M : Rat) * pw E := Rat.mul_le_mul_of_nonneg_right (cast_le.2 h3) (Rat.le_of_lt (pw_pos _))
        rw [← pw53, ← pw_add] at h4
        have h5 := pw_le (show 1024 ≤ 53 + E by omega)
        grind

/-- The loops' end in the document's Make. -/
theorem ref_no {M : Nat} {E : Int} (h1 : M % 2 = 1 ∨ (M < 9007199254740992 ∧ -1074 ≤ E)) (h2 : ¬ (M < 4503599627370496 ∧ -1074 < E)) (h : 9007199254740992 ≤ M ∨ E < -1074 ∨ 971 < E) : ¬ rep ((M : Rat) * pw E) := by
  by_cases c1 : 971 < E
  · refine rep_no_big ?_
    have h3 : ((4503599627370496 : Nat) : Rat) * pw E ≤ (M : Rat) * pw E := Rat.mul_le_mul_of_nonneg_right (cast_le.2 (by omega)) (Rat.le_of_lt (pw_pos _))
    rw [← pw52, ← pw_add] at h3
    have h4 := pw_le (show 1024 ≤ 52 + E by omega)
    grind
  · exact rep_no_odd (by omega) (by omega)

theorem halve_val {M : Nat} {E : Int} (h : M % 2 = 0) : ((M / 2 : Nat) : Rat) * pw (E + 1) = (M : Rat) * pw E := by
  have h1 : M = 2 * (M / 2) := by omega
  rw [pw_double]
  have h2 : (M : Rat) = 2 * ((M / 2 : Nat) : Rat) := by rw [← two_cast, ← Rat.natCast_mul, ← h1]
  rw [h2]; grind
theorem double_val {M : Nat} {E : Int} : ((2 * M : Nat) : Rat) * pw (E - 1) = (M : Rat) * pw E := by
  have h1 : pw E = 2 * pw (E - 1) := by rw [← pw_double]; congr 1; omega
  rw [h1, Rat.natCast_mul, two_cast]; grind

theorem shift_few {M j m : Nat} (h : M * 2 ^ j = m) (h0 : 0 < M) (hm : m < 18446744073709551616) : j < 64 := by
  rcases Nat.lt_or_ge j 64 with h1 | h1
  · exact h1
  · have h2 := Nat.pow_le_pow_right (n := 2) (by decide) h1
    have h3 : (2 : Nat) ^ 64 = 18446744073709551616 := by decide
    have h4 := Nat.le_mul_of_pos_left (2 ^ j) h0
    omega
theorem shift_le {M j m : Nat} (h : M * 2 ^ j = m) : M ≤ m := by
  rw [← h]; exact Nat.le_mul_of_pos_right M (Nat.two_pow_pos j)
theorem shift_half {M j m : Nat} (h : M * 2 ^ j = m) (h2 : M % 2 = 0) : M / 2 * 2 ^ (j + 1) = m := by
  have h3 : M = 2 * (M / 2) := by omega
  rw [Nat.pow_succ, ← h, Nat.mul_comm (2 ^ j) 2, ← Nat.mul_assoc, Nat.mul_comm (M / 2) 2, ← h3]
theorem shift_val {M j m : Nat} {e : Int} (h : M * 2 ^ j = m) : (M : Rat) * pw (e + j) = (m : Rat) * pw e := by
  rw [← h, Rat.natCast_mul, ← pw_nat, pw_add]; grind

/-- A whole number below 2^53, as a float. -/
theorem ofInt_whole {M : Nat} (h : M < 9007199254740992) : ∃ r, r < INF ∧ floatOfInt .f64 (M : Int) = r ∧ (rm r : Rat) * pw (-1074) = (M : Rat) := by
  obtain ⟨r, hr1, hr2⟩ := rep_yes (M := M) (E := 0) h (by decide) (by decide)
  rw [pw_zero, Rat.mul_one] at hr2
  refine ⟨r, hr1, ?_, hr2⟩
  show D.write (.number (decide ((M : Int) < 0)) (M : Int).natAbs 0) = r
  have e1 : decide ((M : Int) < 0) = false := decide_eq_false (by omega)
  rw [e1, Int.natAbs_natCast]
  obtain ⟨s, hs1, hs2⟩ := write_spec false M 0
  rw [pw_zero, Rat.mul_one] at hs2
  have h2 := IsRnd.exact hr1
  rw [hr2] at h2
  rw [hs1, hs2.unique h2, word_false]

/-- Ldexp of a whole number is what Make answers. -/
theorem ldS_make {M r0 : Nat} {E : Int} (hM : M < 9007199254740992) (h1 : -1074 ≤ E) (h2 : E ≤ 971) (hr0 : r0 < INF) (hv : (rm r0 : Rat) * pw (-1074) = (M : Rat)) {m : Nat} {e : Int} (heq : (M : Rat) * pw E = (m : Rat) * pw e) :
    makeB m e = true ∧ makeF false m e = ldS r0 E ∧ rg (ldS r0 E) = ldS r0 E ∧ ∀ neg, makeF neg m e = D.word neg (ldS r0 E) := by
  obtain ⟨r, hr1, hr2⟩ := rep_yes (M := M) (E := E) hM h1 h2
  have hI := INF_eq
  have hr63 : r < 9223372036854775808 := by omega
  have e1 : rg r0 = r0 := Nat.mod_eq_of_lt (by omega)
  have e2 : sg r0 = false := by unfold sg; rw [Nat.div_eq_of_lt (by omega)]; rfl
  have hl : ldS r0 E = r := by
    unfold ldS
    rw [e2, word_false, ab_fv, e1, hv]
    have h3 := IsRnd.exact hr1
    rw [hr2] at h3
    exact (h3.eq_rr (mpw_nonneg _ _)).symm
  rw [hl]
  have hmk : ∀ neg, makeB m e = true ∧ makeF neg m e = D.word neg r := fun neg => make_yes hr1 (by rw [hr2, heq])
  exact ⟨(hmk false).1, by rw [(hmk false).2, word_false], Nat.mod_eq_of_lt hr63, fun neg => (hmk neg).2⟩

end Lev

/- The plain laws of layer 1. -/
namespace Lev
open Ieee Go

theorem sameS_self (a : Nat) : sameS a a = true := by unfold sameS; exact beq_self_eq_true _

def scaleF (b : Nat) (k : Int) : Nat := if kindS b = 0 then b else if kindS b = 1 then makeF (sg b) (mantS b) (expS b + k) else 0
def scaleB (b : Nat) (k : Int) : Bool := if kindS b = 0 then true else if kindS b = 1 then makeB (mantS b) (expS b + k) else false

theorem kindS_1 {b : Nat} (h : kindS b = 1) : fin b ∧ rg b ≠ 0 := by
  have hI := INF_eq
  unfold kindS at h
  unfold fin
  repeat' split at h
  all_goals omega
theorem kindS_0 {b : Nat} (h : kindS b = 0) : rg b = 0 := by
  unfold kindS at h
  repeat' split at h
  all_goals omega
theorem kindS_2 {b : Nat} (h : 2 ≤ kindS b) : INF ≤ rg b := by
  unfold kindS at h
  repeat' split at h
  all_goals omega

theorem makeB_rep {m : Nat} {e : Int} (hm : m ≠ 0) (h : makeB m e = true) : ∃ r, r < INF ∧ (rm r : Rat) * pw (-1074) = (m : Rat) * pw e := by
  unfold makeB at h
  rw [decide_eq_false hm, Bool.false_or, Bool.and_eq_true, decide_eq_true_eq, decide_eq_true_eq] at h
  exact ⟨_, h.1, h.2⟩

theorem scale_back {x : Nat} {k : Int} (hx : x < 18446744073709551616) (h : scaleB x k = true) : scaleB (scaleF x k) (-k) = true ∧ scaleF (scaleF x k) (-k) = x := by
  by_cases h0 : kindS x = 0
  · have e : scaleF x k = x := by unfold scaleF; rw [if_pos h0]
    rw [e]
    unfold scaleB scaleF
    rw [if_pos h0, if_pos h0]
    exact ⟨rfl, rfl⟩
  · by_cases h1 : kindS x = 1
    · obtain ⟨hf, hz⟩ := kindS_1 h1
      unfold scaleB at h
      rw [if_neg h0, if_pos h1] at h
      obtain ⟨r, hr1, hr2⟩ := makeB_rep (by have := mantS_pos hz; omega) h
      have e : scaleF x k = D.word (sg x) r := by
        unfold scaleF
        rw [if_neg h0, if_pos h1, (make_yes (neg := sg x) hr1 hr2).2]
      have hI := INF_eq
      have hr63 : r < 9223372036854775808 := by omega
      have e1 : sg (D.word (sg x) r) = sg x := sg_word _ _ hr63
      have e2 : rg (D.word (sg x) r) = r := rg_word _ _ hr63
      have hv : (rm r : Rat) * pw (-1074) = (rm (rg x) : Rat) * pw (-1074) * pw k := by rw [hr2, mantS_val, pw_add]; grind
      have hr0 : r ≠ 0 := by
        intro h3
        rw [h3, rm_zero, show ((0 : Nat) : Rat) = 0 from rfl, Rat.zero_mul] at hv
        have h4 := rm_pos (Nat.pos_of_ne_zero hz)
        have h5 : (0 : Rat) < (rm (rg x) : Rat) * pw (-1074) * pw k := Rat.mul_pos (Rat.mul_pos (Rat.natCast_pos.2 h4) (pw_pos _)) (pw_pos _)
        rw [← hv] at h5
        exact absurd h5 Rat.lt_irrefl
      have hk : kindS (D.word (sg x) r) = 1 := kindS_fin (by unfold fin; rw [e2]; exact hr1) (by rw [e2]; exact hr0)
      have hm : (mantS (D.word (sg x) r) : Rat) * pw (expS (D.word (sg x) r) + -k) = (rm (rg x) : Rat) * pw (-1074) := by
        rw [pw_add, ← Rat.mul_assoc, ← mantS_val, e2, hv]
        have := pw_neg k
        grind
      have hmk := make_yes (neg := sg x) hf hm.symm
      rw [e]
      unfold scaleB scaleF
      rw [if_neg (by omega), if_pos hk, if_neg (by omega), if_pos hk, e1, hmk.1, hmk.2, word_sg_rg x hx]
      exact ⟨rfl, rfl⟩
    · unfold scaleB at h
      rw [if_neg h0, if_neg h1] at h
      cases h

theorem split_make {x : Nat} (hx : x < 18446744073709551616) (h : kindS x ≤ 1) : makeB (mS x) (eS x) = true ∧ makeF (nS x) (mS x) (eS x) = x := by
  have hb := kindS_bounds x
  rcases (by omega : kindS x = 0 ∨ kindS x = 1) with h0 | h1
  · have e1 : mS x = 0 := by unfold mS; rw [if_neg (by omega)]
    have e3 : nS x = sg x := by unfold nS; rw [h0]; rfl
    rw [e1, e3]
    unfold makeB makeF
    refine ⟨by simp, ?_⟩
    rw [if_pos rfl, ← kindS_0 h0, word_sg_rg x hx]
  · obtain ⟨hf, hz⟩ := kindS_1 h1
    have e1 : mS x = mantS x := by unfold mS; rw [if_pos h1]
    have e2 : eS x = expS x := by unfold eS; rw [if_pos h1]
    have e3 : nS x = sg x := by unfold nS; rw [h1]; rfl
    have hmk := make_yes (neg := sg x) hf (mantS_val x)
    rw [e1, e2, e3, hmk.1, hmk.2, word_sg_rg x hx]
    exact ⟨rfl, rfl⟩

theorem split_facts {x : Nat} (h : kindS x = 1) : 1 ≤ mS x ∧ mS x < 9007199254740992 ∧ -1074 ≤ eS x ∧ (4503599627370496 ≤ mS x ∨ eS x = -1074) ∧ eS x ≤ topB x ∧ topB x ≤ eS x + 52 := by
  obtain ⟨hf, hz⟩ := kindS_1 h
  have e1 : mS x = mantS x := by unfold mS; rw [if_pos h]
  have e2 : eS x = expS x := by unfold eS; rw [if_pos h]
  have e4 : topB x = topS x := by unfold topB; rw [if_pos h]
  rw [e1, e2, e4]
  refine ⟨mantS_pos hz, mantS_lt x, expS_ge x, ?_, ?_, ?_⟩
  · unfold mantS expS
    by_cases h1 : rg x < 4503599627370496
    · right; rw [if_pos h1]
    · left; rw [if_neg h1]; omega
  · unfold topS; omega
  · have := lg_le hz; unfold topS; omega

theorem inS_no {x : Nat} (h : 2 ≤ kindS x) : inS x = false := by
  have := kindS_2 h
  have := INF_eq
  unfold inS; rw [decide_eq_false]; omega
theorem topB_no {x : Nat} (h : kindS x ≠ 1) : topB x = -2000 := by unfold topB; rw [if_neg h]

end Lev
