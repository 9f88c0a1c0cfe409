/- Roots; how two floats stand to each other; how far a result is from what comes without an error. -/
import Derived.Test.YtcoaachajdomcaaFb
namespace Lev
open Ieee

theorem rootFrom_spec (n : Nat) : ∀ (todo root : Nat), root * root ≤ n → n < (root + 2 ^ todo) * (root + 2 ^ todo) →
    Datum.rootFrom n todo root * Datum.rootFrom n todo root ≤ n ∧ n < (Datum.rootFrom n todo root + 1) * (Datum.rootFrom n todo root + 1) := by
  intro todo
  induction todo with
  | zero => intro root h1 h2; exact ⟨h1, h2⟩
  | succ k ih =>
    intro root h1 h2
    unfold Datum.rootFrom
    simp only
    rw [Nat.shiftLeft_eq, Nat.one_mul]
    by_cases hc : (root + 2 ^ k) * (root + 2 ^ k) ≤ n
    · rw [if_pos hc]
      refine ih _ hc ?_
      have : root + 2 ^ k + 2 ^ k = root + 2 ^ (k + 1) := by rw [Nat.pow_succ]; omega
      rw [this]; exact h2
    · rw [if_neg hc]
      exact ih _ h1 (by omega)

theorem root_whole (n : Nat) : Datum.rootFrom n (n.log2 / 2 + 1) 0 * Datum.rootFrom n (n.log2 / 2 + 1) 0 ≤ n ∧
    n < (Datum.rootFrom n (n.log2 / 2 + 1) 0 + 1) * (Datum.rootFrom n (n.log2 / 2 + 1) 0 + 1) := by
  refine rootFrom_spec n _ 0 (by omega) ?_
  have h : n < 2 ^ (n.log2 + 1) := Nat.lt_log2_self
  rw [Nat.zero_add, ← Nat.pow_add]
  exact Nat.lt_of_lt_of_le h (Nat.pow_le_pow_right (by decide) (by omega))

/-- The rung r is the one to which the root of y is rounded. -/
def IsRndS (y : Rat) (r : Nat) : Prop :=
  r ≤ INF ∧
  (r < INF → y ≤ ((mid2 r : Rat) * pw (-1075)) * ((mid2 r : Rat) * pw (-1075)) ∧ (y = ((mid2 r : Rat) * pw (-1075)) * ((mid2 r : Rat) * pw (-1075)) → r % 2 = 0)) ∧
  (0 < r → ((mid2 (r - 1) : Rat) * pw (-1075)) * ((mid2 (r - 1) : Rat) * pw (-1075)) ≤ y ∧ (((mid2 (r - 1) : Rat) * pw (-1075)) * ((mid2 (r - 1) : Rat) * pw (-1075)) = y → r % 2 = 0))

theorem sq_le {a b : Rat} (ha : 0 ≤ a) (h : a ≤ b) : a * a ≤ b * b := by
  have h1 := Rat.mul_le_mul_of_nonneg_left h ha
  have h2 := Rat.mul_le_mul_of_nonneg_right h (Rat.le_trans ha h)
  exact Rat.le_trans h1 h2
theorem sq_lt {a b : Rat} (ha : 0 ≤ a) (h : a < b) : a * a < b * b := by
  have h1 := Rat.mul_le_mul_of_nonneg_left (Rat.le_of_lt h) ha
  have h2 := Rat.mul_lt_mul_of_pos_right h (by grind : 0 < b)
  grind

theorem root_spec (m : Nat) (i : Int) (hm : 0 < m) : ∃ r, (Datum.root 54 (.number false m i)).map D.write = some (D.word false r) ∧ IsRndS ((m : Rat) * pw i) r := by
  unfold Datum.root
  simp only
  rw [if_neg (by omega), if_neg (by decide)]
  simp only [Option.map_some, Option.some.injEq]
  generalize hmore : 2 * 54 - m.log2 + ((i - ((2 * 54 - m.log2 : Nat) : Int)) % 2).toNat = more
  have hev : (i - (more : Int)) % 2 = 0 := by omega
  have hmg : 108 ≤ m.log2 + more := by omega
  rw [Nat.shiftLeft_eq]
  obtain ⟨hw1, hw2⟩ := root_whole (m * 2 ^ more)
  have hn1 : 2 ^ 108 ≤ m * 2 ^ more := by
    have h1 : 2 ^ m.log2 ≤ m := Nat.log2_self_le (by omega)
    have h2 : 2 ^ (m.log2 + more) ≤ m * 2 ^ more := by rw [Nat.pow_add]; exact Nat.mul_le_mul_right _ h1
    exact Nat.le_trans (Nat.pow_le_pow_right (by decide) hmg) h2
  generalize hn : m * 2 ^ more = n at *
  generalize Datum.rootFrom n (n.log2 / 2 + 1) 0 = w at *
  obtain ⟨r, hr1, hr2⟩ := write_spec false (2 * w + (w * w != n).toNat) ((i - more) / 2 - 1)
  refine ⟨r, hr1, ?_⟩
  rw [told_eq] at hr2
  obtain ⟨P, hP⟩ : ∃ P : Int, P = (i - more) / 2 := ⟨_, rfl⟩
  rw [← hP] at hr2
  have hP2 : i = P + P + more := by omega
  have hq : 9007199254740992 ≤ w := by
    rcases Nat.lt_or_ge w 9007199254740992 with h | h
    · exfalso
      have h1 : (w + 1) * (w + 1) ≤ 9007199254740992 * 9007199254740992 := Nat.mul_le_mul (by omega) (by omega)
      have h2 : (2 : Nat) ^ 108 = 9007199254740992 * 9007199254740992 * 4 := by decide
      omega
    · exact h
  have hy : (m : Rat) * pw i = (n : Rat) * (pw P * pw P) := by
    rw [← hn, Rat.natCast_mul, ← pw_nat, hP2, pw_add, pw_add]
    grind
  rw [hy]
  have hp := pw_pos P
  have hpp : 0 < pw P * pw P := Rat.mul_pos hp hp
  have hsplit : w * w = n ∨ w * w < n := by omega
  generalize hst : (w * w != n) = st at *
  have hst1 : st = true ↔ w * w < n := by rw [← hst]; simp; omega
  have hsqe : ∀ j : Nat, ((j : Rat) * pw P) * ((j : Rat) * pw P) = ((j * j : Nat) : Rat) * (pw P * pw P) := fun j => by rw [Rat.natCast_mul]; grind
  have cle : ∀ a b : Nat, (a : Rat) * (pw P * pw P) ≤ (b : Rat) * (pw P * pw P) ↔ a ≤ b := fun a b =>
    ⟨fun h => cast_le.1 (Rat.le_of_mul_le_mul_right h hpp), fun h => Rat.mul_le_mul_of_nonneg_right (cast_le.2 h) (Rat.le_of_lt hpp)⟩
  have clt : ∀ a b : Nat, a < b → (a : Rat) * (pw P * pw P) < (b : Rat) * (pw P * pw P) := fun a b h => Rat.mul_lt_mul_of_pos_right (cast_lt.2 h) hpp
  have hbig : pw (53 + P) ≤ (w : Rat) * pw P := by
    rw [pw_add]
    have h2 : pw 53 = ((9007199254740992 : Nat) : Rat) := by rw [show (53 : Int) = ((53 : Nat) : Int) from rfl, pw_nat]
    rw [h2]; exact Rat.mul_le_mul_of_nonneg_right (cast_le.2 hq) (Rat.le_of_lt hp)
  have hwn : 0 ≤ (w : Rat) * pw P := Rat.mul_nonneg Rat.natCast_nonneg (Rat.le_of_lt hp)
  -- what is told lies in [w, w + 1)
  have hv1 : (w : Rat) * pw P ≤ ((w : Rat) + (if st then (1 / 2 : Rat) else 0)) * pw P := Rat.mul_le_mul_of_nonneg_right (by split <;> grind) (Rat.le_of_lt hp)
  have hv2 : ((w : Rat) + (if st then (1 / 2 : Rat) else 0)) * pw P < ((w + 1 : Nat) : Rat) * pw P := by
    rw [Rat.natCast_add]
    refine Rat.mul_lt_mul_of_pos_right ?_ hp
    have : ((1 : Nat) : Rat) = 1 := rfl
    rw [this]
    split <;> grind
  have hv3 : ((w : Rat) + (if st then (1 / 2 : Rat) else 0)) * pw P = (w : Rat) * pw P ↔ w * w = n := by
    cases st
    · simp only [Bool.false_eq_true, if_false]
      have : ¬ w * w < n := fun h => by have := hst1.2 h; cases this
      constructor
      · intro _; omega
      · intro _; grind
    · have h1 : w * w < n := hst1.1 rfl
      simp only [if_true]
      constructor
      · intro h
        have := Rat.mul_lt_mul_of_pos_right (show (w : Rat) < (w : Rat) + 1 / 2 by grind) hp
        grind
      · intro h; omega
  generalize ((w : Rat) + (if st then (1 / 2 : Rat) else 0)) * pw P = v at *
  have key : ∀ s : Nat, ((mid2 s : Rat) * pw (-1075) ≤ v ↔ ((mid2 s : Rat) * pw (-1075)) * ((mid2 s : Rat) * pw (-1075)) ≤ (n : Rat) * (pw P * pw P)) ∧
      (v ≤ (mid2 s : Rat) * pw (-1075) ↔ (n : Rat) * (pw P * pw P) ≤ ((mid2 s : Rat) * pw (-1075)) * ((mid2 s : Rat) * pw (-1075))) := by
    intro s
    have hM : 0 ≤ (mid2 s : Rat) * pw (-1075) := Rat.mul_nonneg Rat.natCast_nonneg (Rat.le_of_lt (pw_pos _))
    by_cases hc : (mid2 s : Rat) * pw (-1075) < (w : Rat) * pw P
    · have h1 := sq_lt hM hc
      rw [hsqe] at h1
      have h2 := (cle (w * w) n).2 hw1
      constructor <;> constructor <;> intro _ <;> grind
    · obtain ⟨j, hj⟩ := mid_whole s P (by grind)
      rw [hj] at hc ⊢
      rw [hsqe]
      have hqj : w ≤ j := by
        have : (w : Rat) * pw P ≤ (j : Rat) * pw P := by grind
        exact cast_le.1 (Rat.le_of_mul_le_mul_right this hp)
      rcases Nat.lt_or_ge w j with h1 | h1
      · have h2 : ((w + 1 : Nat) : Rat) * pw P ≤ (j : Rat) * pw P := Rat.mul_le_mul_of_nonneg_right (cast_le.2 h1) (Rat.le_of_lt hp)
        have h3 : n < j * j := Nat.lt_of_lt_of_le hw2 (Nat.mul_le_mul h1 h1)
        have h4 := clt _ _ h3
        constructor <;> constructor <;> intro _ <;> grind
      · have : j = w := by omega
        subst this
        have h2 := (cle (j * j) n).2 hw1
        constructor
        · constructor <;> intro _ <;> grind
        · constructor
          · intro h0
            have h3 : j * j = n := hv3.1 (Rat.le_antisymm h0 hv1)
            rw [h3]; exact Rat.le_refl
          · intro h0
            have h3 : j * j = n := Nat.le_antisymm hw1 ((cle n (j * j)).1 h0)
            exact le_of_eqR (hv3.2 h3)
  obtain ⟨a, b, c⟩ := hr2
  refine ⟨a, fun h0 => ?_, fun h0 => ?_⟩
  · obtain ⟨b1, b2⟩ := b h0
    obtain ⟨k1, k2⟩ := key r
    rw [half_unit] at b1 b2
    refine ⟨k2.1 (by grind), fun heq => b2 ?_⟩
    have := k1.2 (le_of_eqR heq.symm)
    grind
  · obtain ⟨b1, b2⟩ := c h0
    obtain ⟨k1, k2⟩ := key (r - 1)
    rw [half_unit] at b1 b2
    refine ⟨k1.1 (by grind), fun heq => b2 ?_⟩
    have := k2.2 (le_of_eqR heq.symm)
    grind

theorem sqrt_zero {a : Nat} (h : rg a = 0) : D.sqrt a = some (D.word (sg a) 0) := by
  unfold Format.sqrt
  rw [read_eq, if_pos (by omega), h]
  rfl
theorem sqrt_spec {a : Nat} (ha : fin a) (hs : sg a = false) (h0 : rg a ≠ 0) : ∃ r, D.sqrt a = some (D.word false r) ∧ IsRndS (fv a) r := by
  obtain ⟨m, i, h1, h2, hz⟩ := read_fin ha
  unfold Format.sqrt
  rw [h1, D_fb, hs]
  have e : fv a = (m : Rat) * pw i := by unfold fv; rw [hs, sv_false, h2]
  rw [e]
  refine root_spec m i ?_
  rcases Nat.eq_zero_or_pos m with h | h
  · exact absurd (hz.1 h) h0
  · exact h

/-! How two floats stand to each other. -/

/-- How two rational numbers stand to each other. -/
def cmpR (x y : Rat) : Ordering := if x < y then .lt else if x = y then .eq else .gt

theorem order_num (s t : Bool) (m n : Nat) (i j : Int) : Datum.order (.number s m i) (.number t n j) = some (cmpR (sv s ((m : Rat) * pw i)) (sv t ((n : Rat) * pw j))) := by
  unfold Datum.order
  simp only [Option.some.injEq]
  have h1 : ((i - min i j).toNat : Int) + min i j = i := by omega
  have h2 : ((j - min i j).toNat : Int) + min i j = j := by omega
  have e1 : ((signed s m (i - min i j).toNat : Int) : Rat) * pw (min i j) = sv s ((m : Rat) * pw i) := by
    rw [cast_signed, sv_scale, Rat.mul_assoc, ← pw_add, h1]
  have e2 : ((signed t n (j - min i j).toNat : Int) : Rat) * pw (min i j) = sv t ((n : Rat) * pw j) := by
    rw [cast_signed, sv_scale, Rat.mul_assoc, ← pw_add, h2]
  rw [← e1, ← e2]
  generalize signed s m (i - min i j).toNat = A
  generalize signed t n (j - min i j).toNat = B
  have hp := pw_pos (min i j)
  unfold cmpR
  have hlt : (A : Rat) * pw (min i j) < (B : Rat) * pw (min i j) ↔ A < B := by rw [Rat.mul_lt_mul_right hp]; exact Rat.intCast_lt_intCast
  have heq : (A : Rat) * pw (min i j) = (B : Rat) * pw (min i j) ↔ A = B := by
    constructor
    · intro h
      have h3 := Rat.le_of_mul_le_mul_right (le_of_eqR h) hp
      have h4 := Rat.le_of_mul_le_mul_right (le_of_eqR h.symm) hp
      exact Rat.intCast_inj.1 (Rat.le_antisymm h3 h4)
    · intro h; rw [h]
  by_cases c1 : A < B
  · rw [if_pos (hlt.2 c1)]; exact Int.compare_eq_lt.2 c1
  · rw [if_neg (fun h => c1 (hlt.1 h))]
    by_cases c2 : A = B
    · rw [if_pos (heq.2 c2), c2]; exact Int.compare_eq_eq.2 rfl
    · rw [if_neg (fun h => c2 (heq.1 h))]; exact Int.compare_eq_gt.2 (by omega)

theorem order_fin {a b : Nat} (ha : fin a) (hb : fin b) : D.order a b = some (cmpR (fv a) (fv b)) := by
  obtain ⟨m, i, h1, h2⟩ := fv_read ha
  obtain ⟨n, j, h3, h4⟩ := fv_read hb
  unfold Format.order
  rw [h1, h3, order_num, h2, h4]

end Lev
