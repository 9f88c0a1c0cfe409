/- What rounding to a float comes to: magnitudes of rungs, midpoints, and the rung nearest to a rational number. -/
import Derived.Laws.FloatBits
namespace Lev
open Ieee

abbrev D : Format := Ieee.double

theorem D_binade : D.binade = 4503599627370496 := by decide
/-- The rung of an infinity. -/
def INF : Nat := 9218868437227405312
theorem INF_eq : INF = 9218868437227405312 := rfl
theorem INF_even : INF % 2 = 0 := by decide
theorem D_inf : D.infRung = INF := by decide
theorem D_sign : D.signWeight = 9223372036854775808 := by decide
theorem D_least : D.leastPlace = -1074 := by decide
theorem D_fb : D.fractionBits = 52 := by decide

/-- 2 to the power of k. -/
def pw (k : Int) : Rat := (2 : Rat) ^ k

theorem pw_pos (k : Int) : 0 < pw k := Rat.zpow_pos (by decide)
theorem pw_ne (k : Int) : pw k ≠ 0 := fun h => by have := pw_pos k; rw [h] at this; exact absurd this (by decide)
theorem pw_add (a b : Int) : pw (a + b) = pw a * pw b := Rat.zpow_add (by decide) a b
theorem pw_nat (n : Nat) : pw (n : Int) = ((2 ^ n : Nat) : Rat) := by
  unfold pw
  rw [Rat.zpow_natCast, Rat.natCast_pow]; rfl
theorem pw_zero : pw 0 = 1 := Rat.zpow_zero _
theorem pw_neg (k : Int) : pw (-k) * pw k = 1 := by rw [← pw_add, Int.add_left_neg, pw_zero]

/-- The magnitude of a rung, in units of 2^-1074. -/
def rm (r : Nat) : Nat := if r < 4503599627370496 then r else (4503599627370496 + r % 4503599627370496) * 2 ^ (r / 4503599627370496 - 1)

theorem rm_seg (e k : Nat) (h : e = 0 ∨ 4503599627370496 ≤ k) (hk : k ≤ 9007199254740992) : rm (e * 4503599627370496 + k) = k * 2 ^ e := by
  unfold rm
  by_cases h0 : e * 4503599627370496 + k < 4503599627370496
  · have he : e = 0 := by omega
    subst he
    rw [if_pos h0]; simp
  · rw [if_neg h0]
    by_cases hk2 : k = 9007199254740992
    · subst hk2
      have h1 : (e * 4503599627370496 + 9007199254740992) % 4503599627370496 = 0 := by omega
      have h2 : (e * 4503599627370496 + 9007199254740992) / 4503599627370496 - 1 = e + 1 := by omega
      rw [h1, h2, Nat.pow_succ]
      simp only [Nat.add_zero]
      rw [Nat.mul_comm (2 ^ e) 2, ← Nat.mul_assoc]
    · have h1 : (e * 4503599627370496 + k) % 4503599627370496 = k - 4503599627370496 := by omega
      have h2 : (e * 4503599627370496 + k) / 4503599627370496 - 1 = e := by omega
      have h3 : 4503599627370496 + (k - 4503599627370496) = k := by omega
      rw [h1, h2, h3]

/-- Each rung is in a segment. -/
theorem rung_seg (r : Nat) : ∃ e k, r = e * 4503599627370496 + k ∧ (e = 0 ∨ 4503599627370496 ≤ k) ∧ k < 9007199254740992 := by
  refine ⟨r / 4503599627370496 - 1, r - (r / 4503599627370496 - 1) * 4503599627370496, ?_, ?_, ?_⟩ <;> omega

theorem rm_succ_seg (e k : Nat) (h : e = 0 ∨ 4503599627370496 ≤ k) (hk : k < 9007199254740992) : rm (e * 4503599627370496 + k + 1) = (k + 1) * 2 ^ e := by
  rw [Nat.add_assoc, rm_seg e (k + 1) (by omega) (by omega)]

theorem rm_lt_succ (r : Nat) : rm r < rm (r + 1) := by
  obtain ⟨e, k, rfl, h, hk⟩ := rung_seg r
  rw [rm_succ_seg e k h hk, rm_seg e k h (by omega)]
  exact Nat.mul_lt_mul_of_pos_right (Nat.lt_succ_self k) (Nat.two_pow_pos e)

theorem rm_mono {r s : Nat} (h : r ≤ s) : rm r ≤ rm s := by
  induction s with
  | zero => have : r = 0 := by omega
            subst this; exact Nat.le_refl _
  | succ s ih =>
    by_cases hr : r = s + 1
    · subst hr; exact Nat.le_refl _
    · exact Nat.le_trans (ih (by omega)) (Nat.le_of_lt (rm_lt_succ s))

theorem rm_strict {r s : Nat} (h : r < s) : rm r < rm s := Nat.lt_of_lt_of_le (rm_lt_succ r) (rm_mono h)
theorem rm_lt_iff {r s : Nat} : rm r < rm s ↔ r < s := by
  constructor
  · intro h
    rcases Nat.lt_or_ge r s with h1 | h1
    · exact h1
    · have := rm_mono h1; omega
  · exact rm_strict
theorem rm_le_iff {r s : Nat} : rm r ≤ rm s ↔ r ≤ s := by
  constructor
  · intro h
    rcases Nat.lt_or_ge s r with h1 | h1
    · have := rm_strict h1; omega
    · exact h1
  · exact rm_mono
theorem rm_inj {r s : Nat} (h : rm r = rm s) : r = s := by
  rcases Nat.lt_trichotomy r s with h1 | h1 | h1
  · have := rm_strict h1; omega
  · exact h1
  · have := rm_strict h1; omega
theorem rm_zero : rm 0 = 0 := by decide
theorem rm_pos {r : Nat} (h : 0 < r) : 0 < rm r := by have := rm_strict h; rw [rm_zero] at this; exact this

/-- Twice the number between a rung and the next one. -/
def mid2 (r : Nat) : Nat := rm r + rm (r + 1)

theorem mid2_lt {r s : Nat} (h : r < s) : mid2 r < mid2 s := by
  have h1 := rm_strict h
  have h2 : rm (r + 1) < rm (s + 1) := rm_strict (by omega)
  unfold mid2; omega
theorem mid2_le {r s : Nat} (h : r ≤ s) : mid2 r ≤ mid2 s := by
  rcases Nat.lt_or_ge r s with h1 | h1
  · exact Nat.le_of_lt (mid2_lt h1)
  · have : r = s := by omega
    subst this; exact Nat.le_refl _
theorem mid2_seg (e k : Nat) (h : e = 0 ∨ 4503599627370496 ≤ k) (hk : k < 9007199254740992) : mid2 (e * 4503599627370496 + k) = (2 * k + 1) * 2 ^ e := by
  unfold mid2
  have h3 : k + (k + 1) = 2 * k + 1 := by omega
  rw [rm_succ_seg e k h hk, rm_seg e k h (by omega), ← Nat.add_mul, h3]

/-- What a cut to a whole number, to the nearest and even one, comes to. -/
theorem cut_spec (neg : Bool) (n s : Nat) :
    2 * n ≤ (2 * Toward.even.cut neg n s + 1) * 2 ^ s ∧ (2 * n = (2 * Toward.even.cut neg n s + 1) * 2 ^ s → Toward.even.cut neg n s % 2 = 0) ∧
    2 * Toward.even.cut neg n s * 2 ^ s ≤ 2 * n + 2 ^ s ∧ (2 * Toward.even.cut neg n s * 2 ^ s = 2 * n + 2 ^ s → Toward.even.cut neg n s % 2 = 0) := by
  have hlog : n < 2 ^ (n.log2 + 1) := Nat.lt_log2_self
  unfold Toward.cut
  simp only
  by_cases hs : s ≤ n.log2 + 2
  · rw [Nat.min_eq_left hs, Nat.shiftLeft_eq, Nat.one_mul]
    have hg : 0 < 2 ^ s := Nat.two_pow_pos s
    generalize 2 ^ s = g at *
    have hdm := Nat.div_add_mod n g
    have hm := Nat.mod_lt n hg
    generalize hq : n / g = q at *
    generalize ht : n % g = t at *
    have e1 : (2 * q + 1) * g = 2 * (g * q) + g := by rw [Nat.add_mul, Nat.one_mul, Nat.mul_assoc, Nat.mul_comm q g]
    have e2 : (2 * (q + 1) + 1) * g = 2 * (g * q) + 3 * g := by rw [Nat.add_mul, Nat.one_mul, Nat.mul_assoc, Nat.mul_comm (q + 1) g, Nat.mul_add]; omega
    have e3 : 2 * q * g = 2 * (g * q) := by rw [Nat.mul_assoc, Nat.mul_comm q g]
    have e4 : 2 * (q + 1) * g = 2 * (g * q) + 2 * g := by rw [Nat.mul_assoc, Nat.mul_comm (q + 1) g, Nat.mul_add]; omega
    by_cases c1 : g < 2 * t
    · have : (decide (g < 2 * t) || g == 2 * t && q % 2 == 1) = true := by simp [c1]
      rw [this, Bool.toNat_true]
      refine ⟨?_, ?_, ?_, ?_⟩ <;> (try rw [e2]) <;> (try rw [e4]) <;> omega
    · by_cases c2 : g = 2 * t
      · by_cases c3 : q % 2 = 1
        · have : (decide (g < 2 * t) || g == 2 * t && q % 2 == 1) = true := by simp [c2, c3]
          rw [this, Bool.toNat_true]
          refine ⟨?_, ?_, ?_, ?_⟩ <;> (try rw [e2]) <;> (try rw [e4]) <;> omega
        · have : (decide (g < 2 * t) || g == 2 * t && q % 2 == 1) = false := by simp [c2, c3]
          rw [this, Bool.toNat_false]
          simp only [Nat.add_zero]
          refine ⟨?_, ?_, ?_, ?_⟩ <;> (try rw [e1]) <;> (try rw [e3]) <;> omega
      · have : (decide (g < 2 * t) || g == 2 * t && q % 2 == 1) = false := by simp [c1, c2]
        rw [this, Bool.toNat_false]
        simp only [Nat.add_zero]
        refine ⟨?_, ?_, ?_, ?_⟩ <;> (try rw [e1]) <;> (try rw [e3]) <;> omega
  · rw [Nat.min_eq_right (by omega), Nat.shiftLeft_eq, Nat.one_mul]
    have hp : 2 ^ (n.log2 + 2) = 2 * 2 ^ (n.log2 + 1) := by rw [Nat.pow_succ]; omega
    have hle : 2 ^ (n.log2 + 2) ≤ 2 ^ s := Nat.pow_le_pow_right (by decide) (by omega)
    have hq : n / 2 ^ (n.log2 + 2) = 0 := Nat.div_eq_of_lt (by omega)
    have ht : n % 2 ^ (n.log2 + 2) = n := Nat.mod_eq_of_lt (by omega)
    rw [hq, ht]
    have : (decide (2 ^ (n.log2 + 2) < 2 * n) || 2 ^ (n.log2 + 2) == 2 * n && 0 % 2 == 1) = false := by simp; omega
    rw [this]
    simp only [Bool.toNat_false]
    refine ⟨?_, ?_, ?_, ?_⟩ <;> omega

/-- The rung r is the one to which x, not below 0, is rounded. -/
def IsRnd (x : Rat) (r : Nat) : Prop :=
  r ≤ INF ∧
  (r < INF → 2 * x ≤ (mid2 r : Rat) * pw (-1074) ∧ (2 * x = (mid2 r : Rat) * pw (-1074) → r % 2 = 0)) ∧
  (0 < r → (mid2 (r - 1) : Rat) * pw (-1074) ≤ 2 * x ∧ ((mid2 (r - 1) : Rat) * pw (-1074) = 2 * x → r % 2 = 0))

theorem le_of_eqR {a b : Rat} (h : a = b) : a ≤ b := h ▸ Rat.le_refl
theorem cast_le {a b : Nat} : (a : Rat) ≤ (b : Rat) ↔ a ≤ b := Rat.natCast_le_natCast
theorem cast_lt {a b : Nat} : (a : Rat) < (b : Rat) ↔ a < b := Rat.natCast_lt_natCast

theorem unit_le {a b : Nat} : (a : Rat) * pw (-1074) ≤ (b : Rat) * pw (-1074) ↔ a ≤ b := by
  constructor
  · intro h; exact cast_le.1 (Rat.le_of_mul_le_mul_right h (pw_pos _))
  · intro h; exact Rat.mul_le_mul_of_nonneg_right (cast_le.2 h) (Rat.le_of_lt (pw_pos _))
theorem unit_lt {a b : Nat} : (a : Rat) * pw (-1074) < (b : Rat) * pw (-1074) ↔ a < b := by
  rw [Rat.mul_lt_mul_right (pw_pos _)]; exact cast_lt

theorem IsRnd.mono {x y : Rat} {r s : Nat} (hx : IsRnd x r) (hy : IsRnd y s) (h : x ≤ y) : r ≤ s := by
  rcases Nat.lt_or_ge s r with hlt | hge
  · exfalso
    obtain ⟨hr, _, hr2⟩ := hx
    obtain ⟨hs, hs1, _⟩ := hy
    obtain ⟨a1, a2⟩ := hr2 (by omega)
    obtain ⟨b1, b2⟩ := hs1 (by omega)
    have h2 : 2 * x ≤ 2 * y := Rat.mul_le_mul_of_nonneg_left h (by decide)
    have h3 : (mid2 (r - 1) : Rat) * pw (-1074) ≤ (mid2 s : Rat) * pw (-1074) := Rat.le_trans a1 (Rat.le_trans h2 b1)
    have h4 := unit_le.1 h3
    have h5 : r - 1 = s := by
      rcases Nat.lt_or_ge s (r - 1) with h6 | h6
      · have := mid2_lt h6; omega
      · omega
    subst h5
    have e1 : 2 * x = (mid2 (r - 1) : Rat) * pw (-1074) := Rat.le_antisymm (Rat.le_trans h2 b1) a1
    have e2 : 2 * y = (mid2 (r - 1) : Rat) * pw (-1074) := Rat.le_antisymm b1 (Rat.le_trans a1 h2)
    have p1 := a2 e1.symm
    have p2 := b2 e2
    omega
  · exact hge

theorem IsRnd.unique {x : Rat} {r s : Nat} (hx : IsRnd x r) (hy : IsRnd x s) : r = s :=
  Nat.le_antisymm (hx.mono hy Rat.le_refl) (hy.mono hx Rat.le_refl)

theorem IsRnd.exact {r : Nat} (h : r < INF) : IsRnd ((rm r : Rat) * pw (-1074)) r := by
  have hr := rm_lt_succ r
  have e : ∀ z : Rat, 2 * (z * pw (-1074)) = (2 * z) * pw (-1074) := fun z => (Rat.mul_assoc _ _ _).symm
  have e2 : (2 * (rm r : Rat)) = ((2 * rm r : Nat) : Rat) := by rw [Rat.natCast_mul]; rfl
  refine ⟨Nat.le_of_lt h, fun _ => ?_, fun h0 => ?_⟩
  · rw [e, e2]
    have hlt : 2 * rm r < mid2 r := by unfold mid2; omega
    have := unit_lt.2 hlt
    exact ⟨Rat.le_of_lt this, fun heq => absurd heq (Rat.ne_of_lt this)⟩
  · rw [e, e2]
    have h1 := rm_lt_succ (r - 1)
    have h2 : r - 1 + 1 = r := by omega
    rw [h2] at h1
    have hlt : mid2 (r - 1) < 2 * rm r := by unfold mid2; rw [h2]; omega
    have := unit_lt.2 hlt
    exact ⟨Rat.le_of_lt this, fun heq => absurd heq (Rat.ne_of_lt this)⟩

/-- The rung to which 'm * 2^p' is rounded is the one of the model's word. -/
theorem nearest_spec (neg : Bool) (m : Nat) (p : Int) (hm : 0 < m) : ∃ r, D.nearest neg m p = D.word neg r ∧ IsRnd ((m : Rat) * pw p) r := by
  unfold Format.nearest
  rw [if_neg (by omega), D_fb, D_least, D_binade, D_inf]
  simp only
  have hlog : m < 2 ^ (m.log2 + 1) := Nat.lt_log2_self
  have hlog2 : 2 ^ m.log2 ≤ m := Nat.log2_self_le (by omega)
  generalize hg : m.log2 = g at *
  obtain ⟨L, hL⟩ : ∃ L, L = max (p + (g : Int) - ((52 : Nat) : Int)) (-1074) := ⟨_, rfl⟩
  rw [← hL]
  have hL1 : -1074 ≤ L := by omega
  have hL2 : p + g - 52 ≤ L := by omega
  have hL3 : L = -1074 ∨ L = p + g - 52 := by omega
  clear hL
  obtain ⟨e, he⟩ : ∃ e : Nat, (e : Int) = L - (-1074) := ⟨(L - (-1074)).toNat, by omega⟩
  have het : (L - (-1074)).toNat = e := by omega
  rw [het]
  obtain ⟨a, ha⟩ : ∃ a : Nat, a = (p - L).toNat := ⟨_, rfl⟩
  obtain ⟨s, hs⟩ : ∃ s : Nat, s = (L - p).toNat := ⟨_, rfl⟩
  rw [← ha, ← hs, Nat.shiftLeft_eq]
  have hasp : p + s = L + a := by omega
  obtain ⟨c1, c2, c3, c4⟩ := cut_spec neg (m * 2 ^ a) s
  generalize hK : Toward.even.cut neg (m * 2 ^ a) s = K at *
  -- the bounds of K
  have hn1 : m * 2 ^ a < 2 ^ (53 + s) := by
    have h1 : m * 2 ^ a < 2 ^ (g + 1) * 2 ^ a := Nat.mul_lt_mul_of_pos_right hlog (Nat.two_pow_pos a)
    rw [← Nat.pow_add] at h1
    exact Nat.lt_of_lt_of_le h1 (Nat.pow_le_pow_right (by decide) (by omega))
  have hn2 : 0 < e → 2 ^ (52 + s) ≤ m * 2 ^ a := fun h0 => by
    have h1 : 2 ^ g * 2 ^ a ≤ m * 2 ^ a := Nat.mul_le_mul_right _ hlog2
    rw [← Nat.pow_add] at h1
    have : 52 + s = g + a := by omega
    rw [this]; exact h1
  generalize hn : m * 2 ^ a = n at *
  have hsp : 0 < 2 ^ s := Nat.two_pow_pos s
  rw [Nat.pow_add] at hn1
  have hKle : K ≤ 9007199254740992 := by
    rcases Nat.lt_or_ge 9007199254740992 K with h | h
    · exfalso
      have h1 : 2 * 9007199254740993 * 2 ^ s ≤ 2 * K * 2 ^ s := Nat.mul_le_mul_right _ (by omega)
      have h2 : (2 : Nat) ^ 53 = 9007199254740992 := by decide
      rw [h2] at hn1
      omega
    · exact h
  have hKge : 0 < e → 4503599627370496 ≤ K := fun h0 => by
    have h1 := hn2 h0
    rw [Nat.pow_add] at h1
    rcases Nat.lt_or_ge K 4503599627370496 with h | h
    · exfalso
      have h2 : (2 * K + 1) * 2 ^ s ≤ 9007199254740991 * 2 ^ s := Nat.mul_le_mul_right _ (by omega)
      have h3 : (2 : Nat) ^ 52 = 4503599627370496 := by decide
      rw [h3] at h1
      omega
    · exact h
  have hseg : e = 0 ∨ 4503599627370496 ≤ K := by
    rcases Nat.eq_zero_or_pos e with h | h
    · exact .inl h
    · exact .inr (hKge h)
  -- from units to whole numbers
  have hx : ∀ A : Nat, (A : Rat) * pw (-1074) ≤ 2 * ((m : Rat) * pw p) ↔ A * 2 ^ s ≤ 2 * n * 2 ^ e := by
    intro A
    have q1 : ((A * 2 ^ s : Nat) : Rat) = (A : Rat) * pw s := by rw [Rat.natCast_mul, pw_nat]
    have q2 : ((2 * n * 2 ^ e : Nat) : Rat) = 2 * ((m : Rat) * pw a) * pw e := by
      rw [← hn, Rat.natCast_mul, Rat.natCast_mul, Rat.natCast_mul, pw_nat, pw_nat]; rfl
    rw [← cast_le, q1, q2]
    have k1 : 2 * ((m : Rat) * pw a) * pw e = 2 * ((m : Rat) * pw p) * (pw s * pw 1074) := by
      have : pw a * pw e = pw p * (pw s * pw 1074) := by rw [← pw_add, ← pw_add, ← pw_add, show (a : Int) + e = p + (s + 1074) from by omega]
      grind
    have k2 : (A : Rat) * pw s = (A : Rat) * pw (-1074) * (pw s * pw 1074) := by
      have := pw_neg 1074
      grind
    rw [k1, k2]
    have hpos : 0 < pw s * pw 1074 := Rat.mul_pos (pw_pos _) (pw_pos _)
    exact ⟨fun h => Rat.mul_le_mul_of_nonneg_right h (Rat.le_of_lt hpos), fun h => Rat.le_of_mul_le_mul_right h hpos⟩
  have hy : ∀ A : Nat, 2 * ((m : Rat) * pw p) ≤ (A : Rat) * pw (-1074) ↔ 2 * n * 2 ^ e ≤ A * 2 ^ s := by
    intro A
    have q1 : ((A * 2 ^ s : Nat) : Rat) = (A : Rat) * pw s := by rw [Rat.natCast_mul, pw_nat]
    have q2 : ((2 * n * 2 ^ e : Nat) : Rat) = 2 * ((m : Rat) * pw a) * pw e := by
      rw [← hn, Rat.natCast_mul, Rat.natCast_mul, Rat.natCast_mul, pw_nat, pw_nat]; rfl
    rw [← cast_le, q1, q2]
    have k1 : 2 * ((m : Rat) * pw a) * pw e = 2 * ((m : Rat) * pw p) * (pw s * pw 1074) := by
      have : pw a * pw e = pw p * (pw s * pw 1074) := by rw [← pw_add, ← pw_add, ← pw_add, show (a : Int) + e = p + (s + 1074) from by omega]
      grind
    have k2 : (A : Rat) * pw s = (A : Rat) * pw (-1074) * (pw s * pw 1074) := by
      have := pw_neg 1074
      grind
    rw [k1, k2]
    have hpos : 0 < pw s * pw 1074 := Rat.mul_pos (pw_pos _) (pw_pos _)
    exact ⟨fun h => Rat.mul_le_mul_of_nonneg_right h (Rat.le_of_lt hpos), fun h => Rat.le_of_mul_le_mul_right h hpos⟩
  have hep : 0 < 2 ^ e := Nat.two_pow_pos e
  -- above
  have up : 2 * ((m : Rat) * pw p) ≤ (mid2 (e * 4503599627370496 + K) : Rat) * pw (-1074) ∧
      (2 * ((m : Rat) * pw p) = (mid2 (e * 4503599627370496 + K) : Rat) * pw (-1074) → (e * 4503599627370496 + K) % 2 = 0) := by
    have hc : 2 * n * 2 ^ e ≤ (2 * K + 1) * 2 ^ s * 2 ^ e := Nat.mul_le_mul_right _ c1
    by_cases hK53 : K < 9007199254740992
    · have hmid := mid2_seg e K hseg hK53
      have hcomm : mid2 (e * 4503599627370496 + K) * 2 ^ s = (2 * K + 1) * 2 ^ s * 2 ^ e := by rw [hmid, Nat.mul_assoc, Nat.mul_assoc, Nat.mul_comm (2 ^ e)]
      refine ⟨(hy _).2 (by rw [hcomm]; exact hc), fun heq => ?_⟩
      have h1 := (hx _).1 (le_of_eqR heq.symm)
      rw [hcomm] at h1
      have h2 : 2 * n = (2 * K + 1) * 2 ^ s := Nat.le_antisymm c1 (Nat.le_of_mul_le_mul_right h1 hep)
      have := c2 h2
      omega
    · have hKe : K = 9007199254740992 := by omega
      have hlt : (2 * K + 1) * 2 ^ s * 2 ^ e < mid2 (e * 4503599627370496 + K) * 2 ^ s := by
        have hs1 : e * 4503599627370496 + K = (e + 1) * 4503599627370496 + 4503599627370496 := by omega
        have hmid := mid2_seg (e + 1) 4503599627370496 (.inr (Nat.le_refl _)) (by decide)
        rw [hs1, hmid, hKe, Nat.pow_succ, Nat.mul_assoc, Nat.mul_assoc, Nat.mul_comm (2 ^ s) (2 ^ e), Nat.mul_assoc (2 ^ e) 2, Nat.mul_comm 2 (2 ^ s), ← Nat.mul_assoc (2 ^ e)]
        have : 0 < 2 ^ e * 2 ^ s := Nat.mul_pos hep hsp
        generalize 2 ^ e * 2 ^ s = z at *
        omega
      refine ⟨(hy _).2 (Nat.le_of_lt (Nat.lt_of_le_of_lt hc hlt)), fun heq => ?_⟩
      have h1 := (hx _).1 (le_of_eqR heq.symm)
      omega
  -- below
  have down : 0 < e * 4503599627370496 + K → (mid2 (e * 4503599627370496 + K - 1) : Rat) * pw (-1074) ≤ 2 * ((m : Rat) * pw p) ∧
      ((mid2 (e * 4503599627370496 + K - 1) : Rat) * pw (-1074) = 2 * ((m : Rat) * pw p) → (e * 4503599627370496 + K) % 2 = 0) := by
    intro h0
    by_cases hb : e = 0 ∨ 4503599627370496 < K
    · have hK0 : 0 < K := by omega
      have hs1 : e * 4503599627370496 + K - 1 = e * 4503599627370496 + (K - 1) := by omega
      have hmid := mid2_seg e (K - 1) (by omega) (by omega)
      rw [← hs1] at hmid
      have hcomm : mid2 (e * 4503599627370496 + K - 1) * 2 ^ s = (2 * (K - 1) + 1) * 2 ^ s * 2 ^ e := by rw [hmid, Nat.mul_assoc, Nat.mul_assoc, Nat.mul_comm (2 ^ e)]
      have hKK : 2 * K * 2 ^ s = (2 * (K - 1) + 1) * 2 ^ s + 2 ^ s := by
        have : 2 * K = 2 * (K - 1) + 1 + 1 := by omega
        rw [this, Nat.add_mul (2 * (K - 1) + 1) 1, Nat.one_mul]
      rw [hKK] at c3 c4
      have c3' : (2 * (K - 1) + 1) * 2 ^ s ≤ 2 * n := by omega
      have hc : (2 * (K - 1) + 1) * 2 ^ s * 2 ^ e ≤ 2 * n * 2 ^ e := Nat.mul_le_mul_right _ c3'
      refine ⟨(hx _).2 (by rw [hcomm]; exact hc), fun heq => ?_⟩
      have h1 := (hy _).1 (le_of_eqR heq.symm)
      rw [hcomm] at h1
      have h2 : 2 * n = (2 * (K - 1) + 1) * 2 ^ s := Nat.le_antisymm (Nat.le_of_mul_le_mul_right h1 hep) c3'
      have := c4 (by rw [h2])
      omega
    · have he0 : 0 < e := by omega
      have hKe : K = 4503599627370496 := by have := hKge he0; omega
      have h1 := hn2 he0
      obtain ⟨e', rfl⟩ : ∃ e', e = e' + 1 := ⟨e - 1, by omega⟩
      have hs1 : (e' + 1) * 4503599627370496 + K - 1 = e' * 4503599627370496 + 9007199254740991 := by omega
      have hmid := mid2_seg e' 9007199254740991 (.inr (by decide)) (by decide)
      rw [hs1, hmid]
      have hlt : (2 * 9007199254740991 + 1) * 2 ^ e' * 2 ^ s < 2 * n * 2 ^ (e' + 1) := by
        rw [Nat.pow_add] at h1
        have h3 : (2 : Nat) ^ 52 = 4503599627370496 := by decide
        rw [h3] at h1
        have h4 : 2 * (4503599627370496 * 2 ^ s) * 2 ^ (e' + 1) ≤ 2 * n * 2 ^ (e' + 1) := Nat.mul_le_mul_right _ (by omega)
        rw [Nat.pow_succ] at h4 ⊢
        have h5 : 2 * (4503599627370496 * 2 ^ s) * (2 ^ e' * 2) = 18014398509481984 * (2 ^ e' * 2 ^ s) := by
          have : 2 ^ s * 2 ^ e' = 2 ^ e' * 2 ^ s := Nat.mul_comm _ _
          grind
        have h6 : (2 * 9007199254740991 + 1) * 2 ^ e' * 2 ^ s = 18014398509481983 * (2 ^ e' * 2 ^ s) := by rw [Nat.mul_assoc]
        have : 0 < 2 ^ e' * 2 ^ s := Nat.mul_pos (Nat.two_pow_pos _) hsp
        rw [h6]; rw [h5] at h4
        generalize 2 ^ e' * 2 ^ s = z at *
        omega
      refine ⟨(hx _).2 (Nat.le_of_lt hlt), fun heq => ?_⟩
      have h7 := (hy _).1 (le_of_eqR heq.symm)
      omega
  have hI := INF_even
  unfold IsRnd
  generalize INF = I at *
  clear hx hy c1 c2 c3 c4 hn1 hn2 hKle hKge hK hn hL1 hL2 hL3 he het ha hs hasp hlog hlog2 hg
  generalize e * 4503599627370496 + K = X at *
  rcases Nat.lt_or_ge I X with hov | hov
  · rw [Nat.min_eq_right (Nat.le_of_lt hov)]
    refine ⟨_, rfl, Nat.le_refl _, fun hlt => absurd hlt (Nat.lt_irrefl _), fun h0 => ?_⟩
    have hle : I - 1 ≤ X - 1 := by omega
    exact ⟨Rat.le_trans (unit_le.2 (mid2_le hle)) (down (by omega)).1, fun _ => hI⟩
  · rw [Nat.min_eq_left hov]
    exact ⟨_, rfl, hov, fun _ => up, down⟩

end Lev
