/- Plain texts, laid as one. -/
import Derived.Test.YtigacobphgeeaaaT9
import Derived.Test.YtigacobphgeeaaaF9
/- Scaling by powers of two, and rounding: in the middle of the range they go hand in hand. -/
namespace Lev

theorem mid_up {e e' m : Nat} {k : Int} (hk : (e' : Int) = (e : Int) + k) (h1 : 1 ≤ e) (h2 : 1 ≤ e') (hm : 4503599627370496 ≤ m) (hm2 : m < 9007199254740992) :
    (mid2 (e' * 4503599627370496 + m) : Rat) = (mid2 (e * 4503599627370496 + m) : Rat) * pw k ∧
    (mid2 (e' * 4503599627370496 + m - 1) : Rat) = (mid2 (e * 4503599627370496 + m - 1) : Rat) * pw k ∧
    (rm (e' * 4503599627370496 + m) : Rat) = (rm (e * 4503599627370496 + m) : Rat) * pw k := by
  have hp : pw (e' : Int) = pw (e : Int) * pw k := by rw [hk, pw_add]
  have hp1 : pw ((e' - 1 : Nat) : Int) = pw ((e - 1 : Nat) : Int) * pw k := by rw [← pw_add]; congr 1; omega
  refine ⟨?_, ?_, ?_⟩
  · rw [mid2_seg e' m (.inr hm) hm2, mid2_seg e m (.inr hm) hm2, Rat.natCast_mul, Rat.natCast_mul, ← pw_nat, ← pw_nat, hp, Rat.mul_assoc]
  · rcases Nat.lt_or_ge 4503599627370496 m with h | h
    · rw [show e' * 4503599627370496 + m - 1 = e' * 4503599627370496 + (m - 1) from by omega, show e * 4503599627370496 + m - 1 = e * 4503599627370496 + (m - 1) from by omega,
        mid2_seg e' (m - 1) (.inr (by omega)) (by omega), mid2_seg e (m - 1) (.inr (by omega)) (by omega), Rat.natCast_mul, Rat.natCast_mul, ← pw_nat, ← pw_nat, hp, Rat.mul_assoc]
    · rw [show e' * 4503599627370496 + m - 1 = (e' - 1) * 4503599627370496 + 9007199254740991 from by omega, show e * 4503599627370496 + m - 1 = (e - 1) * 4503599627370496 + 9007199254740991 from by omega,
        mid2_seg (e' - 1) 9007199254740991 (.inr (by decide)) (by decide), mid2_seg (e - 1) 9007199254740991 (.inr (by decide)) (by decide), Rat.natCast_mul, Rat.natCast_mul, ← pw_nat, ← pw_nat, hp1, Rat.mul_assoc]
  · rw [rm_seg e' m (.inr hm) (by omega), rm_seg e m (.inr hm) (by omega), Rat.natCast_mul, Rat.natCast_mul, ← pw_nat, ← pw_nat, hp, Rat.mul_assoc]

theorem pw_lt_of {a b : Int} (h : pw a ≤ pw b) : a ≤ b := by
  rcases Int.lt_or_le b a with h1 | h1
  · exact absurd h (by have := pw_lt h1; grind)
  · exact h1

theorem pwk_cancel {a b : Rat} {k : Int} (h : a * pw k = b * pw k) : a = b := by
  have h1 : a * pw k * pw (-k) = b * pw k * pw (-k) := by rw [h]
  have h2 := pw_neg k
  grind
theorem pw_half52 (a : Int) : pw (52 + a + -1074) = 2 * pw (51 + a + -1074) := by
  rw [show 52 + a + -1074 = 51 + a + -1074 + 1 from by omega, pw_double]
theorem pw_half54 (a : Int) : pw (54 + a) = 2 * pw (53 + a) := by
  rw [show 54 + a = 53 + a + 1 from by omega, pw_double]
theorem par (e m : Nat) : (e * 4503599627370496 + m) % 2 = m % 2 := by omega
theorem low_rung {e m : Nat} (he : 1 ≤ e) (hm : 4503599627370496 ≤ m) : (e - 1) * 4503599627370496 + 4503599627370496 ≤ e * 4503599627370496 + m - 1 + 1 := by
  obtain ⟨g, rfl⟩ : ∃ g, e = g + 1 := ⟨e - 1, by omega⟩
  rw [Nat.add_sub_cancel]
  omega
theorem top_rung {e m : Nat} (he : e ≤ 2000) (hm : m < 9007199254740992) : e * 4503599627370496 + m < INF := by
  rw [INF_eq]
  have := Nat.mul_le_mul_right 4503599627370496 he
  omega
theorem two_mul_k {x M u P : Rat} (h : 2 * x ≤ M * u) (hP : 0 ≤ P) : 2 * (x * P) ≤ M * P * u := by
  have := Rat.mul_le_mul_of_nonneg_right h hP
  grind
theorem two_mul_k' {x M u P : Rat} (h : M * u ≤ 2 * x) (hP : 0 ≤ P) : M * P * u ≤ 2 * (x * P) := by
  have := Rat.mul_le_mul_of_nonneg_right h hP
  grind

/-- What is rounded, scaled, is what is scaled, rounded. -/
theorem rnd_scale {x : Rat} {r : Nat} {k : Int} (h : IsRnd x r) (hlo : pw (-900) ≤ x) (hhi : x ≤ pw 900) (hlo2 : pw (-900) ≤ x * pw k) (hhi2 : x * pw k ≤ pw 900) :
    ∃ r', r' < INF ∧ r < INF ∧ IsRnd (x * pw k) r' ∧ (rm r' : Rat) * pw (-1074) = (rm r : Rat) * pw (-1074) * pw k := by
  have hI := INF_eq
  have b1 : (122 * 4503599627370496 + 4503599627370496 : Nat) ≤ r := by
    have := IsRnd.exact (r := 122 * 4503599627370496 + 4503599627370496) (by omega)
    rw [rm_pow 122] at this
    exact this.mono h hlo
  have b2 : r ≤ (1922 * 4503599627370496 + 4503599627370496 : Nat) := by
    have := IsRnd.exact (r := 1922 * 4503599627370496 + 4503599627370496) (by omega)
    rw [rm_pow 1922] at this
    exact h.mono this hhi
  obtain ⟨e, m, rfl, he, hm⟩ := rung_seg r
  have he1 : 122 ≤ e ∧ 4503599627370496 ≤ m := by rcases he with h | h <;> omega
  obtain ⟨he1, hm1⟩ := he1
  have hrI : e * 4503599627370496 + m < INF := by omega
  have hr0 : 0 < e * 4503599627370496 + m := by omega
  have hP := pw_pos k
  have hP0 := Rat.le_of_lt hP
  obtain ⟨A1, A2⟩ := h.2.1 hrI
  obtain ⟨B1, B2⟩ := h.2.2 hr0
  have h54 : ((2 * m + 1 : Nat) : Rat) ≤ pw 54 := by
    rw [show (54 : Int) = ((54 : Nat) : Int) from rfl, pw_nat]; exact cast_le.2 (by omega)
  have hlow : ((4503599627370496 * 2 ^ (e - 1) : Nat) : Rat) ≤ (mid2 (e * 4503599627370496 + m - 1) : Rat) := by
    refine cast_le.2 ?_
    have h2 : rm ((e - 1) * 4503599627370496 + 4503599627370496) ≤ rm (e * 4503599627370496 + m - 1 + 1) := rm_mono (low_rung (Nat.le_trans (by decide) he1) hm1)
    rw [rm_seg (e - 1) 4503599627370496 (.inr (Nat.le_refl _)) (by decide)] at h2
    unfold mid2
    exact Nat.le_trans h2 (Nat.le_add_left _ _)
  have hk1 : 121 ≤ (e : Int) + k := by
    have u1 := A1
    rw [mid2_seg e m (.inr hm1) hm, Rat.natCast_mul, ← pw_nat, Rat.mul_assoc, ← pw_add] at u1
    have h2 := Rat.mul_le_mul_of_nonneg_right h54 (Rat.le_of_lt (pw_pos ((e : Int) + -1074)))
    rw [← pw_add, pw_half54] at h2
    have h3 : x ≤ pw (53 + ((e : Int) + -1074)) := by
      have := Rat.le_trans u1 h2
      exact Rat.le_of_mul_le_mul_left this (by decide)
    have h5 := Rat.mul_le_mul_of_nonneg_right h3 hP0
    rw [← pw_add] at h5
    have h6 := pw_lt_of (Rat.le_trans hlo2 h5)
    clear A1 A2 B1 B2 u1 h2 h3 h5 h54 hlow b1 b2 hrI hr0 hm hm1 he
    omega
  have hk2 : (e : Int) + k ≤ 2000 := by
    have h3 := Rat.mul_le_mul_of_nonneg_right hlow (Rat.le_of_lt (pw_pos (-1074)))
    rw [Rat.natCast_mul, ← pw_nat, ← pw52, ← pw_add, ← pw_add, pw_half52] at h3
    have h5 : pw (51 + ((e - 1 : Nat) : Int) + -1074) ≤ x := Rat.le_of_mul_le_mul_left (Rat.le_trans h3 B1) (by decide)
    have h6 := Rat.mul_le_mul_of_nonneg_right h5 hP0
    rw [← pw_add] at h6
    have h7 := pw_lt_of (Rat.le_trans h6 hhi2)
    clear A1 A2 B1 B2 h3 h5 h6 h54 hlow b1 b2 hrI hr0 hm hm1 he
    omega
  obtain ⟨e', he'⟩ : ∃ e' : Nat, (e' : Int) = (e : Int) + k := ⟨((e : Int) + k).toNat, by clear A1 A2 B1 B2 h54 hlow b1 b2 hrI hr0 hm hm1 he; omega⟩
  have hE : 1 ≤ e' ∧ e' ≤ 2000 := by clear A1 A2 B1 B2 h54 hlow b1 b2 hrI hr0 hm hm1 he; omega
  obtain ⟨q1, q2, q3⟩ := mid_up he' (Nat.le_trans (by decide) he1) hE.1 hm1 hm
  have hlt : e' * 4503599627370496 + m < INF := top_rung hE.2 hm
  refine ⟨e' * 4503599627370496 + m, hlt, hrI, ⟨Nat.le_of_lt hlt, fun _ => ?_, fun _ => ?_⟩, by rw [q3]; grind⟩
  · rw [q1]
    refine ⟨two_mul_k A1 hP0, fun heq => ?_⟩
    have h2 : 2 * x = (mid2 (e * 4503599627370496 + m) : Rat) * pw (-1074) := pwk_cancel (k := k) (by rw [Rat.mul_assoc, heq, Rat.mul_assoc, Rat.mul_assoc, Rat.mul_comm (pw k)])
    have h3 := A2 h2
    rw [par] at h3 ⊢
    exact h3
  · rw [q2]
    refine ⟨two_mul_k' B1 hP0, fun heq => ?_⟩
    have h2 : (mid2 (e * 4503599627370496 + m - 1) : Rat) * pw (-1074) = 2 * x := pwk_cancel (k := k) (by rw [Rat.mul_assoc 2, ← heq, Rat.mul_assoc, Rat.mul_assoc, Rat.mul_comm (pw k)])
    have h3 := B2 h2
    rw [par] at h3 ⊢
    exact h3

/-- y is x, scaled by k, without an error. -/
structure Sk (x : Nat) (k : Int) (y : Nat) : Prop where
  sign : sg y = sg x
  lx : x < 18446744073709551616
  ly : y < 18446744073709551616
  fx : fin x
  fy : fin y
  val : (rm (rg y) : Rat) * pw (-1074) = (rm (rg x) : Rat) * pw (-1074) * pw k
theorem Sk.ab {x y : Nat} {k : Int} (h : Sk x k y) : ab (fv y) = Lev.ab (fv x) * pw k := by rw [ab_fv, ab_fv]; exact h.val
theorem Sk.fv {x y : Nat} {k : Int} (h : Sk x k y) : fv y = Lev.fv x * pw k := by
  unfold Lev.fv; rw [h.sign, h.val, sv_scale]
theorem Sk.zero {x y : Nat} {k : Int} (h : Sk x k y) : rg x = 0 ↔ rg y = 0 := by
  have hp := pw_ne k
  have hu := pw_ne (-1074)
  constructor
  · intro h0
    have := h.val
    rw [h0, rm_zero, show ((0 : Nat) : Rat) = 0 from rfl, Rat.zero_mul, Rat.zero_mul] at this
    have h2 : rm (rg y) = rm 0 := by
      refine cancel_pw (k := -1074) ?_
      rw [this, rm_zero, show ((0 : Nat) : Rat) = 0 from rfl, Rat.zero_mul]
    exact rm_inj h2
  · intro h0
    have := h.val
    rw [h0, rm_zero, show ((0 : Nat) : Rat) = 0 from rfl, Rat.zero_mul] at this
    have h3 : (rm (rg x) : Rat) * pw (-1074) = 0 := pwk_cancel (k := k) (by rw [← this, Rat.zero_mul])
    have h2 : rm (rg x) = rm 0 := by
      refine cancel_pw (k := -1074) ?_
      rw [h3, rm_zero, show ((0 : Nat) : Rat) = 0 from rfl, Rat.zero_mul]
    exact rm_inj h2
theorem scale_sk {x : Nat} {k : Int} (hx : x < 18446744073709551616) (hf : fin x) (h : scaleB x k = true) : Sk x k (scaleF x k) := by
  by_cases h0 : rg x = 0
  · have hk : kindS x = 0 := kindS_zero h0
    have e : scaleF x k = x := by unfold scaleF; rw [if_pos hk]
    rw [e]
    exact ⟨rfl, hx, hx, hf, hf, by rw [h0, rm_zero, show ((0 : Nat) : Rat) = 0 from rfl, Rat.zero_mul, Rat.zero_mul]⟩
  · have hI := INF_eq
    have hk : kindS x = 1 := kindS_fin hf h0
    unfold scaleB at h
    rw [if_neg (by omega), if_pos hk] at h
    obtain ⟨r, hr1, hr2⟩ := makeB_rep (by have := mantS_pos h0; omega) h
    have e : scaleF x k = D.word (sg x) r := by
      unfold scaleF
      rw [if_neg (by omega), if_pos hk, (make_yes (neg := sg x) hr1 hr2).2]
    have h63 : r < 9223372036854775808 := by omega
    rw [e]
    refine ⟨sg_word _ _ h63, hx, word_lt64 _ _ h63, hf, by unfold fin; rw [rg_word _ _ h63]; exact hr1, ?_⟩
    rw [rg_word _ _ h63, hr2, mantS_val, pw_add]; grind
theorem sk_scale {x y : Nat} {k : Int} (h : Sk x k y) : scaleB x k = true ∧ scaleF x k = y := by
  by_cases h0 : rg x = 0
  · have hk : kindS x = 0 := kindS_zero h0
    refine ⟨by unfold scaleB; rw [if_pos hk], ?_⟩
    unfold scaleF
    rw [if_pos hk]
    exact eq_of_sg_rg h.lx h.ly h.sign.symm (by rw [h0, h.zero.1 h0])
  · have hk : kindS x = 1 := kindS_fin h.fx h0
    have hv : (rm (rg y) : Rat) * pw (-1074) = (mantS x : Rat) * pw (expS x + k) := by rw [h.val, mantS_val, pw_add]; grind
    obtain ⟨m1, m2⟩ := make_yes (neg := sg x) h.fy hv
    refine ⟨by unfold scaleB; rw [if_neg (by omega), if_pos hk]; exact m1, ?_⟩
    unfold scaleF
    rw [if_neg (by omega), if_pos hk, m2, ← h.sign]
    exact word_sg_rg y h.ly

theorem inS_ge {x : Nat} (h : inS x = true) (h0 : rg x ≠ 0) : pw (-400) ≤ ab (fv x) := by
  unfold inS at h
  rw [decide_eq_true_eq] at h
  have h1 : 2805742567851819008 ≤ rg x := by omega
  have h2 := unit_le.2 (rm_mono h1)
  rw [show 2805742567851819008 = 622 * 4503599627370496 + 4503599627370496 from by decide, rm_pow 622] at h2
  rw [ab_fv]
  exact h2

theorem word_sk {s : Bool} {r r' : Nat} {k : Int} (h1 : r < INF) (h2 : r' < INF) (h : (rm r' : Rat) * pw (-1074) = (rm r : Rat) * pw (-1074) * pw k) : Sk (D.word s r) k (D.word s r') := by
  have hI := INF_eq
  have a : r < 9223372036854775808 := by omega
  have b : r' < 9223372036854775808 := by omega
  exact ⟨by rw [sg_word _ _ a, sg_word _ _ b], word_lt64 _ _ a, word_lt64 _ _ b, by unfold fin; rw [rg_word _ _ a]; exact h1, by unfold fin; rw [rg_word _ _ b]; exact h2, by rw [rg_word _ _ a, rg_word _ _ b]; exact h⟩
theorem zero_sk {s : Bool} {k : Int} : Sk (D.word s 0) k (D.word s 0) := word_sk (by decide) (by decide) (by rw [rm_zero, show ((0 : Nat) : Rat) = 0 from rfl, Rat.zero_mul, Rat.zero_mul])

/-- Rounded, and scaled. -/
theorem rnd_sk {s : Bool} {x : Rat} {r r' : Nat} {k : Int} (h : IsRnd x r) (h' : IsRnd (x * pw k) r') (hx : x = 0 ∨ (pw (-900) ≤ x ∧ x ≤ pw 900 ∧ pw (-900) ≤ x * pw k ∧ x * pw k ≤ pw 900)) : Sk (D.word s r) k (D.word s r') := by
  rcases hx with rfl | ⟨h1, h2, h3, h4⟩
  · rw [Rat.zero_mul] at h'
    rw [h.zero_eq, h'.zero_eq]
    exact zero_sk
  · obtain ⟨q, q1, q2, q3, q4⟩ := rnd_scale h h1 h2 h3 h4
    rw [h'.unique q3]
    exact word_sk q2 q1 q4

theorem sk_mul {a l b : Nat} {k : Int} (h : Sk a k l) (ha : inS a = true) (hl : inS l = true) (hb : inS b = true) : Sk (fmul a b) k (fmul l b) := by
  obtain ⟨fa, ba⟩ := inS_bd ha
  obtain ⟨fl, bl⟩ := inS_bd hl
  obtain ⟨fb, bb⟩ := inS_bd hb
  obtain ⟨r, m1, m2⟩ := mul_spec fa fb
  obtain ⟨r', n1, n2⟩ := mul_spec fl fb
  have e1 : fmul a b = D.word (sg a ^^ sg b) r := by unfold fmul; rw [m1]; rfl
  have e2 : fmul l b = D.word (sg a ^^ sg b) r' := by unfold fmul; rw [n1, h.sign]; rfl
  have hx : ab (fv l * fv b) = ab (fv a * fv b) * pw k := by rw [ab_mul, ab_mul, h.ab]; grind
  rw [hx] at n2
  rw [e1, e2]
  refine rnd_sk m2 n2 ?_
  have hpm : ∀ {x y : Rat}, 0 ≤ x → x ≤ pw 400 → 0 ≤ y → y ≤ pw 400 → x * y ≤ pw 900 := fun {x y} hx0 hx hy0 hy => by
    have t1 := Rat.mul_le_mul_of_nonneg_right hx hy0
    have t2 := Rat.mul_le_mul_of_nonneg_left hy (Rat.le_of_lt (pw_pos 400))
    rw [← pw_add] at t2
    exact Rat.le_trans t1 (Rat.le_trans t2 (pw_le (by decide)))
  have hpl : ∀ {x y : Rat}, pw (-400) ≤ x → pw (-400) ≤ y → pw (-900) ≤ x * y := fun {x y} hx hy => by
    have t1 := Rat.mul_le_mul_of_nonneg_right hx (Rat.le_trans (Rat.le_of_lt (pw_pos (-400))) hy)
    have t2 := Rat.mul_le_mul_of_nonneg_left hy (Rat.le_of_lt (pw_pos (-400)))
    rw [← pw_add] at t2
    exact Rat.le_trans (pw_le (by decide)) (Rat.le_trans t2 t1)
  by_cases h0 : rg a = 0 ∨ rg b = 0
  · left
    rw [ab_mul, ab_fv, ab_fv]
    rcases h0 with h0 | h0 <;> rw [h0, rm_zero, show ((0 : Nat) : Rat) = 0 from rfl, Rat.zero_mul]
    · rw [Rat.zero_mul]
    · rw [Rat.mul_zero]
  · right
    have na : rg a ≠ 0 := fun hh => h0 (.inl hh)
    have nb : rg b ≠ 0 := fun hh => h0 (.inr hh)
    have nl : rg l ≠ 0 := fun hh => na (h.zero.2 hh)
    have ga := inS_ge ha na
    have gb := inS_ge hb nb
    have gl := inS_ge hl nl
    rw [← hx, ab_mul, ab_mul]
    exact ⟨hpl ga gb, hpm (ab_nonneg _) ba (ab_nonneg _) bb, hpl gl gb, hpm (ab_nonneg _) bl (ab_nonneg _) bb⟩

end Lev

/- Scaling and sums. -/
namespace Lev

/-- A number that is a whole number of 2 to the power of -852. -/
def Lat (v : Rat) : Prop := ∃ z : Int, v = (z : Rat) * pw (-852)
theorem Lat.zero : Lat 0 := ⟨0, by rw [show ((0 : Int) : Rat) = 0 from rfl, Rat.zero_mul]⟩
theorem Lat.neg {v : Rat} (h : Lat v) : Lat (-v) := by
  obtain ⟨z, rfl⟩ := h
  exact ⟨-z, by rw [Rat.intCast_neg, Rat.neg_mul]⟩
theorem Lat.add {v w : Rat} (h : Lat v) (h2 : Lat w) : Lat (v + w) := by
  obtain ⟨z, rfl⟩ := h
  obtain ⟨y, rfl⟩ := h2
  exact ⟨z + y, by rw [Rat.intCast_add, Rat.add_mul]⟩
theorem Lat.abs {v : Rat} (h : Lat v) : Lat (ab v) := by
  unfold ab
  split
  · exact h.neg
  · exact h
theorem Lat.sv {v : Rat} (s : Bool) (h : Lat v) : Lat (sv s v) := by
  cases s
  · exact h
  · exact h.neg
theorem Lat.nz {v : Rat} (h : Lat v) (h0 : 0 ≤ v) (hn : v ≠ 0) : pw (-852) ≤ v := by
  obtain ⟨z, rfl⟩ := h
  have hp := pw_pos (-852)
  have hz : 1 ≤ z := by
    rcases Int.lt_or_le z 1 with h1 | h1
    · exfalso
      have h2 : (z : Rat) ≤ ((0 : Int) : Rat) := Rat.intCast_le_intCast.2 (by omega)
      have h3 := Rat.mul_le_mul_of_nonneg_right h2 (Rat.le_of_lt hp)
      rw [show ((0 : Int) : Rat) = 0 from rfl, Rat.zero_mul] at h3
      exact hn (Rat.le_antisymm h3 h0)
    · exact h1
  have h2 : ((1 : Int) : Rat) ≤ (z : Rat) := Rat.intCast_le_intCast.2 hz
  have h3 := Rat.mul_le_mul_of_nonneg_right h2 (Rat.le_of_lt hp)
  rw [show ((1 : Int) : Rat) = 1 from rfl, Rat.one_mul] at h3
  exact h3
theorem lat_seg {e m : Nat} (he : e = 0 ∨ 4503599627370496 ≤ m) (hm : m < 9007199254740992) (h : 222 ≤ e) : Lat ((rm (e * 4503599627370496 + m) : Rat) * pw (-1074)) := by
  rw [rm_seg e m he (by omega)]
  refine ⟨((m * 2 ^ (e - 222) : Nat) : Int), ?_⟩
  rw [show (((m * 2 ^ (e - 222) : Nat) : Int) : Rat) = ((m * 2 ^ (e - 222) : Nat) : Rat) from rfl, Rat.natCast_mul, Rat.natCast_mul, ← pw_nat, ← pw_nat, Rat.mul_assoc, Rat.mul_assoc, ← pw_add, ← pw_add, show (e : Int) + -1074 = ((e - 222 : Nat) : Int) + -852 from by omega]
theorem lat_big {r : Nat} (h : 222 * 4503599627370496 + 4503599627370496 ≤ r) : Lat ((rm r : Rat) * pw (-1074)) := by
  obtain ⟨e, m, rfl, he, hm⟩ := rung_seg r
  exact lat_seg he hm (by omega)
/-- A whole number of 2^-852 is one, rounded. -/
theorem lat_rnd {x : Rat} {r : Nat} (h : IsRnd x r) (hl : Lat x) (h0 : 0 ≤ x) (hr : r < INF) : Lat ((rm r : Rat) * pw (-1074)) := by
  have A1 := (h.2.1 hr).1
  obtain ⟨e, m, rfl, he, hm⟩ := rung_seg r
  by_cases h2 : 222 ≤ e
  · exact lat_seg he hm h2
  · obtain ⟨z, rfl⟩ := hl
    rw [mid2_seg e m he hm, Rat.natCast_mul, ← pw_nat, Rat.mul_assoc, ← pw_add] at A1
    have h54 : ((2 * m + 1 : Nat) : Rat) ≤ pw 54 := by
      rw [show (54 : Int) = ((54 : Nat) : Int) from rfl, pw_nat]; exact cast_le.2 (by omega)
    have h3 := Rat.mul_le_mul_of_nonneg_right h54 (Rat.le_of_lt (pw_pos ((e : Int) + -1074)))
    rw [← pw_add, pw_half54] at h3
    have h4 : (z : Rat) * pw (-852) ≤ pw (53 + ((e : Int) + -1074)) := Rat.le_of_mul_le_mul_left (Rat.le_trans A1 h3) (by decide)
    have h5 : pw (53 + ((e : Int) + -1074)) ≤ pw (52 + -852) := pw_le (by omega)
    rw [pw_add 52] at h5
    have h6 : (z : Rat) ≤ pw 52 := Rat.le_of_mul_le_mul_right (Rat.le_trans h4 h5) (pw_pos (-852))
    have hz0 : 0 ≤ z := by
      rcases Int.lt_or_le z 0 with h1 | h1
      · exfalso
        have h7 : (z : Rat) < ((0 : Int) : Rat) := Rat.intCast_lt_intCast.2 h1
        have h8 := Rat.mul_lt_mul_of_pos_right h7 (pw_pos (-852))
        rw [show ((0 : Int) : Rat) = 0 from rfl, Rat.zero_mul] at h8
        grind
      · exact h1
    obtain ⟨n, rfl⟩ := Int.eq_ofNat_of_zero_le hz0
    have hn : n ≤ 4503599627370496 := by
      rw [pw52] at h6
      exact cast_le.1 h6
    obtain ⟨q, q1, q2⟩ := rep_yes (M := n) (E := -852) (by omega) (by decide) (by decide)
    have hx := IsRnd.exact q1
    rw [q2] at hx
    have := h.unique hx
    rw [this, q2]
    exact ⟨(n : Int), rfl⟩

theorem sumSg_pw {s t : Bool} {x : Rat} {k : Int} : sumSg s t (x * pw k) = sumSg s t x := by
  have hp := pw_pos k
  unfold sumSg
  by_cases h : x = 0
  · rw [h, Rat.zero_mul]
  · have h2 : x * pw k ≠ 0 := fun h3 => h (pwk_cancel (k := k) (by rw [h3, Rat.zero_mul]))
    rw [if_neg h, if_neg h2, decide_eq_decide]
    constructor
    · intro h4
      rcases (@Rat.le_total 0 x) with h5 | h5
      · have := Rat.mul_nonneg h5 (Rat.le_of_lt hp); grind
      · exact Rat.lt_of_le_of_ne h5 h
    · intro h4
      have := Rat.mul_lt_mul_of_pos_right h4 hp
      rwa [Rat.zero_mul] at this
theorem ab_pwk {x : Rat} {k : Int} : ab (x * pw k) = ab x * pw k := by rw [ab_mul, ab_pw]

theorem fadd_lat {a b : Nat} (ha : fin a) (hb : fin b) (la : Lat (fv a)) (lb : Lat (fv b)) (h : ab (fv a + fv b) ≤ pw 900) : Lat (fv (fadd a b)) := by
  obtain ⟨r, m1, m2⟩ := add_spec ha hb
  have hI := INF_eq
  have hr : r < INF := (rnd_le m2 h (rep_pw1 (by decide) (by decide))).1
  have e : fadd a b = D.word (sumSg (sg a) (sg b) (fv a + fv b)) r := by unfold fadd; rw [m1]; rfl
  rw [e]
  unfold fv
  rw [rg_word _ _ m2.lt63]
  exact (lat_rnd m2 (la.add lb).abs (ab_nonneg _) hr).sv _
theorem sk_add {a b c d : Nat} {k : Int} (h1 : Sk a k c) (h2 : Sk b k d) (la : Lat (fv a)) (lb : Lat (fv b)) (lc : Lat (fv c)) (ld : Lat (fv d)) (u : ab (fv a + fv b) ≤ pw 900) (v : ab (fv c + fv d) ≤ pw 900) : Sk (fadd a b) k (fadd c d) := by
  obtain ⟨r, m1, m2⟩ := add_spec h1.fx h2.fx
  obtain ⟨r', n1, n2⟩ := add_spec h1.fy h2.fy
  have hs : fv c + fv d = (fv a + fv b) * pw k := by rw [h1.fv, h2.fv, Rat.add_mul]
  have e1 : fadd a b = D.word (sumSg (sg a) (sg b) (fv a + fv b)) r := by unfold fadd; rw [m1]; rfl
  have e2 : fadd c d = D.word (sumSg (sg a) (sg b) (fv a + fv b)) r' := by
    unfold fadd; rw [n1, h1.sign, h2.sign, hs, sumSg_pw]; rfl
  have hx : ab (fv c + fv d) = ab (fv a + fv b) * pw k := by rw [hs, ab_pwk]
  rw [e1, e2]
  rw [hx] at n2
  refine rnd_sk m2 n2 ?_
  by_cases h0 : ab (fv a + fv b) = 0
  · exact .inl h0
  · right
    have p1 := (la.add lb).abs.nz (ab_nonneg _) h0
    have h0' : ab (fv c + fv d) ≠ 0 := fun hh => h0 (pwk_cancel (k := k) (by rw [← hx, hh, Rat.zero_mul]))
    have p2 := (lc.add ld).abs.nz (ab_nonneg _) h0'
    rw [← hx]
    have q : pw (-900) ≤ pw (-852) := pw_le (by decide)
    exact ⟨Rat.le_trans q p1, u, Rat.le_trans q p2, v⟩

theorem sum_room {t : Nat → Nat} {E : Int} (h1 : -1074 ≤ E) (h2 : E ≤ 800) {j : Nat} (hj : j < 1000) (ht : ∀ i, i < j + 1 → fin (t i) ∧ ab (fv (t i)) ≤ pw E) : ab (fv (sumT t j) + fv (t j)) ≤ pw 900 := by
  obtain ⟨_, a2, _⟩ := sumT_bd h1 (by omega) j (by omega) (fun i hi => ht i (by omega))
  obtain ⟨_, b2⟩ := ht j (by omega)
  have h3 : ab (fv (sumT t j) + fv (t j)) ≤ (j : Rat) * pw E + pw E := by have := ab_add (fv (sumT t j)) (fv (t j)); grind
  have h4 : (j : Rat) * pw E + pw E = ((j + 1 : Nat) : Rat) * pw E := by
    rw [show ((j + 1 : Nat) : Rat) = (j : Rat) + 1 from by rw [Rat.natCast_add]; rfl, Rat.add_mul, Rat.one_mul]
  rw [h4] at h3
  have h5 : ((j + 1 : Nat) : Rat) ≤ pw 10 := by
    rw [show (10 : Int) = ((10 : Nat) : Int) from rfl, pw_nat]; exact cast_le.2 (by omega)
  have h6 := Rat.mul_le_mul_of_nonneg_right h5 (Rat.le_of_lt (pw_pos E))
  rw [← pw_add] at h6
  exact Rat.le_trans h3 (Rat.le_trans h6 (pw_le (by omega)))

/-- Sums, scaled. -/
theorem sk_sum {t u : Nat → Nat} {k E : Int} (h1 : -1074 ≤ E) (h2 : E ≤ 800) : ∀ j : Nat, j ≤ 1000 →
    (∀ i, i < j → Sk (t i) k (u i) ∧ ab (fv (t i)) ≤ pw E ∧ ab (fv (u i)) ≤ pw E ∧ Lat (fv (t i)) ∧ Lat (fv (u i))) →
    Sk (sumT t j) k (sumT u j) ∧ Lat (fv (sumT t j)) ∧ Lat (fv (sumT u j)) := by
  intro j
  induction j with
  | zero =>
    intro _ _
    have hz : Lat (fv 0) := by
      have : fv 0 = 0 := by unfold fv; rw [show sg 0 = false from by decide, show rg 0 = 0 from by decide, rm_zero]; show ((0 : Nat) : Rat) * _ = 0; rw [show ((0 : Nat) : Rat) = 0 from rfl, Rat.zero_mul]
      rw [this]; exact Lat.zero
    have hs : Sk 0 k 0 := by have := zero_sk (s := false) (k := k); rwa [word_false] at this
    exact ⟨hs, hz, hz⟩
  | succ j ih =>
    intro hj ht
    obtain ⟨s1, s2, s3⟩ := ih (by omega) (fun i hi => ht i (by omega))
    obtain ⟨t1, t2, t3, t4, t5⟩ := ht j (by omega)
    have r1 := sum_room (t := t) h1 h2 (j := j) (by omega) (fun i hi => ⟨(ht i hi).1.fx, (ht i hi).2.1⟩)
    have r2 := sum_room (t := u) h1 h2 (j := j) (by omega) (fun i hi => ⟨(ht i hi).1.fy, (ht i hi).2.2.1⟩)
    exact ⟨sk_add s1 t1 s2 t4 s3 t5 r1 r2, fadd_lat s1.fx t1.fx s2 t4 r1, fadd_lat s1.fy t1.fy s3 t5 r2⟩

end Lev

/- KernScales in plain Lean. -/
namespace Lev

theorem lat_fv {a : Nat} (h : Lat ((rm (rg a) : Rat) * pw (-1074))) : Lat (fv a) := h.sv _
theorem lat_rg {x : Nat} (h : inS x = true) : Lat (fv (rg x)) ∧ Lat (fv x) := by
  have key : Lat ((rm (rg x) : Rat) * pw (-1074)) := by
    unfold inS at h
    rw [decide_eq_true_eq] at h
    rcases h with h | h
    · rw [h, rm_zero, show ((0 : Nat) : Rat) = 0 from rfl, Rat.zero_mul]; exact Lat.zero
    · exact lat_big (by omega)
  exact ⟨lat_fv (by rw [rg_rg]; exact key), lat_fv key⟩
theorem lat_mul {a b : Nat} (ha : inS a = true) (hb : inS b = true) : Lat (fv (fmul a b)) := by
  obtain ⟨fa, _⟩ := inS_bd ha
  obtain ⟨fb, _⟩ := inS_bd hb
  obtain ⟨r, m1, m2⟩ := mul_spec fa fb
  have e : fmul a b = D.word (sg a ^^ sg b) r := by unfold fmul; rw [m1]; rfl
  rw [e]
  refine lat_fv ?_
  rw [rg_word _ _ m2.lt63]
  by_cases h0 : rg a = 0 ∨ rg b = 0
  · have hz : ab (fv a * fv b) = 0 := by
      rw [ab_mul, ab_fv, ab_fv]
      rcases h0 with h0 | h0 <;> rw [h0, rm_zero, show ((0 : Nat) : Rat) = 0 from rfl, Rat.zero_mul]
      · rw [Rat.zero_mul]
      · rw [Rat.mul_zero]
    rw [hz] at m2
    rw [m2.zero_eq, rm_zero, show ((0 : Nat) : Rat) = 0 from rfl, Rat.zero_mul]
    exact Lat.zero
  · have ga := inS_ge ha (fun hh => h0 (.inl hh))
    have gb := inS_ge hb (fun hh => h0 (.inr hh))
    have hp : pw (-800) ≤ ab (fv a * fv b) := by
      rw [ab_mul]
      have t1 := Rat.mul_le_mul_of_nonneg_right ga (Rat.le_trans (Rat.le_of_lt (pw_pos (-400))) gb)
      have t2 := Rat.mul_le_mul_of_nonneg_left gb (Rat.le_of_lt (pw_pos (-400)))
      rw [← pw_add] at t2
      exact Rat.le_trans t2 t1
    have hI := INF_eq
    have hx := IsRnd.exact (r := 222 * 4503599627370496 + 4503599627370496) (by omega)
    rw [rm_pow 222] at hx
    exact lat_big (hx.mono m2 hp)

/-- Scaled entry by entry. -/
structure Skl (xs : List Nat) (k : Int) (ls : List Nat) : Prop where
  len : ls.length = xs.length
  each : ∀ i, i < xs.length → Sk (ge xs i) k (ge ls i)

theorem dot_scale {xs ls ys : List Nat} {k : Int} (h : Skl xs k ls) (hx : fitS xs ys = true) (hl : fitS ls ys = true) (hn : xs.length ≤ 40) : Sk (dotF xs ys) k (dotF ls ys) := by
  obtain ⟨e1, a1, a2⟩ := fitS_iff.1 hx
  obtain ⟨_, a3, _⟩ := fitS_iff.1 hl
  unfold dotF
  rw [if_pos hx, if_pos hl, h.len]
  refine (sk_sum (t := dotT xs ys) (u := dotT ls ys) (E := 800) (by decide) (by decide) xs.length (by omega) (fun i hi => ?_)).1
  have hi2 : i < ls.length := by rw [h.len]; exact hi
  have b1 := allIn_get a1 hi
  have b2 := allIn_get a2 (k := i) (by omega)
  have b3 := allIn_get a3 hi2
  exact ⟨sk_mul (h.each i hi) b1 b3 b2, (dotT_bd hx hi).2, (dotT_bd hl hi2).2, lat_mul b1 b2, lat_mul b3 b2⟩

theorem sk_rg {x y : Nat} {k : Int} (h : Sk x k y) : Sk (rg x) k (rg y) :=
  ⟨by rw [sg_rg, sg_rg], Nat.lt_trans (rg_lt _) (by decide), Nat.lt_trans (rg_lt _) (by decide), fin_rg' h.fx, fin_rg' h.fy, by rw [rg_rg, rg_rg]; exact h.val⟩
theorem sum_scale {xs ls : List Nat} {k : Int} (h : Skl xs k ls) (hx : allIn xs = true) (hl : allIn ls = true) (hn : xs.length ≤ 40) : Sk (sumF xs) k (sumF ls) := by
  unfold sumF
  rw [if_pos hx, if_pos hl, h.len]
  refine (sk_sum (t := absT xs) (u := absT ls) (E := 400) (by decide) (by decide) xs.length (by omega) (fun i hi => ?_)).1
  have hi2 : i < ls.length := by rw [h.len]; exact hi
  exact ⟨sk_rg (h.each i hi), (absT_bd hx hi).2, (absT_bd hl hi2).2, (lat_rg (allIn_get hx hi)).1, (lat_rg (allIn_get hl hi2)).1⟩

theorem sumT_congr {t u : Nat → Nat} : ∀ n : Nat, (∀ i, i < n → t i = u i) → sumT t n = sumT u n := by
  intro n
  induction n with
  | zero => intro _; rfl
  | succ n ih =>
    intro h
    show fadd (sumT t n) (t n) = fadd (sumT u n) (u n)
    rw [ih (fun i hi => h i (by omega)), h n (by omega)]

theorem Sk.mono {x y x' y' : Nat} {k : Int} (h : Sk x k y) (h' : Sk x' k y') (hle : rg x ≤ rg x') : rg y ≤ rg y' := by
  have h1 := Rat.mul_le_mul_of_nonneg_right (unit_le.2 (rm_mono hle)) (Rat.le_of_lt (pw_pos k))
  rw [← h.val, ← h'.val] at h1
  exact rm_le_iff.1 (unit_le.1 h1)
theorem Sk.top {x y : Nat} {k : Int} (h : Sk x k y) (h0 : rg x ≠ 0) : topS y = topS x + k := by
  have hy0 : rg y ≠ 0 := fun hh => h0 (h.zero.2 hh)
  have a1 := val_ge h0
  have a2 := val_lt h0
  have b1 := val_ge hy0
  have b2 := val_lt hy0
  rw [h.ab] at b1 b2
  have c1 := Rat.mul_le_mul_of_nonneg_right a1 (Rat.le_of_lt (pw_pos k))
  have c2 := Rat.mul_lt_mul_of_pos_right a2 (pw_pos k)
  rw [← pw_add] at c1 c2
  have d1 : pw (topS x + k) < pw (topS y + 1) := by grind
  have d2 : pw (topS y) < pw (topS x + 1 + k) := by grind
  have e1 : topS x + k < topS y + 1 := by
    rcases Int.lt_or_le (topS x + k) (topS y + 1) with h | h
    · exact h
    · exact absurd (pw_le h) (by grind)
  have e2 : topS y < topS x + 1 + k := by
    rcases Int.lt_or_le (topS y) (topS x + 1 + k) with h | h
    · exact h
    · exact absurd (pw_le h) (by grind)
  omega

/-- The root of the sum of the squares, scaled, is 1 at least. -/
theorem root_range {xs : List Nat} (h : allIn xs = true) (hl : xs.length ≤ 40) (h0 : mostT xs xs.length ≠ 0) :
    pw 0 ≤ ab (fv (sqrtF (sumT (sqT xs (normK xs)) xs.length))) ∧ ab (fv (sqrtF (sumT (sqT xs (normK xs)) xs.length))) ≤ pw 10 := by
  obtain ⟨i, hi, hm⟩ := (most_at (xs := xs) xs.length (Nat.le_refl _)).resolve_left h0
  have hK : normK xs = topS (ge xs i) := by unfold normK; rw [← hm, topS_rg]
  have hns := norm_sum h h0 (by omega)
  have hx0 : rg (ge xs i) ≠ 0 := by rw [hm]; exact h0
  have hnt := fun j (hj : j < xs.length) => norm_terms h h0 hj
  obtain ⟨t1, t2⟩ := top_scaled hx0 (hnt i hi).1
  have hfr := fracS_lt hx0
  have hy : scT xs (normK xs) i = ldS (ge xs i) (-topS (ge xs i)) := by unfold scT; rw [hK]
  have hroot := sqrt_sq (y := scT xs (normK xs) i) (by rw [hy, t1]; omega) (by rw [hy, t1]; omega)
  have hge := sumT_ge (t := sqT xs (normK xs)) (E := 2) (by decide) (by decide) xs.length (by omega) (fun j hj => ⟨(hnt j hj).2.2.2.1, (hnt j hj).2.2.2.2.1, (hnt j hj).2.2.2.2.2.1⟩) i hi
  have hmono := sqrtF_mono (hnt i hi).2.2.2.1 hns.1 (hnt i hi).2.2.2.2.2.1 hns.2.1 hge
  have e2 : sqrtF (sqT xs (normK xs) i) = rg (scT xs (normK xs) i) := hroot
  rw [e2, rg_rg, hy, t1] at hmono
  constructor
  · have h1 := unit_le.2 (rm_mono (Nat.le_trans (Nat.le_add_right _ _) hmono))
    rw [show 4607182418800017408 = 1022 * 4503599627370496 + 4503599627370496 from by decide, rm_pow 1022] at h1
    rw [ab_fv]
    exact h1
  · have h3 : fin 4697254411347427328 := by decide
    have h4 : sg 4697254411347427328 = false := by decide
    have h5 : rg (sumT (sqT xs (normK xs)) xs.length) ≤ rg 4697254411347427328 := by
      have h6 := hns.2.2
      rw [ab_fv] at h6
      have h7 : pw 20 = (rm 4697254411347427328 : Rat) * pw (-1074) := by
        rw [show 4697254411347427328 = 1042 * 4503599627370496 + 4503599627370496 from by decide, rm_pow 1042]; rfl
      rw [h7] at h6
      exact rm_le_iff.1 (unit_le.1 h6)
    have h8 := sqrtF_mono hns.1 h3 hns.2.1 h4 h5
    have h9 : rg (sqrtF 4697254411347427328) = 4652218415073722368 := by decide +kernel
    rw [h9] at h8
    have h1 := unit_le.2 (rm_mono h8)
    rw [show 4652218415073722368 = 1032 * 4503599627370496 + 4503599627370496 from by decide, rm_pow 1032] at h1
    rw [ab_fv]
    exact h1

theorem norm_scale {xs ls : List Nat} {k : Int} (h : Skl xs k ls) (hx : allIn xs = true) (hl : allIn ls = true) (hn : xs.length ≤ 40) : Sk (normF xs) k (normF ls) := by
  by_cases h0 : mostT xs xs.length = 0
  · have hz : mostT ls ls.length = 0 := by
      rcases most_at (xs := ls) ls.length (Nat.le_refl _) with h1 | ⟨i, hi, h1⟩
      · exact h1
      · rw [h.len] at hi
        have h2 := mostT_le (xs := xs) hi
        have h3 := (h.each i hi).zero.1 (by omega)
        omega
    have e1 : normF xs = 0 := by unfold normF; rw [if_neg (by simp [h0])]
    have e2 : normF ls = 0 := by unfold normF; rw [if_neg (by simp [hz])]
    rw [e1, e2]
    have := zero_sk (s := false) (k := k)
    rwa [word_false] at this
  · obtain ⟨i, hi, hm⟩ := (most_at (xs := xs) xs.length (Nat.le_refl _)).resolve_left h0
    have hx0 : rg (ge xs i) ≠ 0 := by rw [hm]; exact h0
    have hl0 : rg (ge ls i) ≠ 0 := fun hh => hx0 ((h.each i hi).zero.2 hh)
    have hli : i < ls.length := by rw [h.len]; exact hi
    have hmi := mostT_le (xs := ls) hli
    have hz : mostT ls ls.length ≠ 0 := by omega
    have hml : mostT ls ls.length = rg (ge ls i) := by
      obtain ⟨j, hj, h1⟩ := (most_at (xs := ls) ls.length (Nat.le_refl _)).resolve_left hz
      rw [h.len] at hj
      have h2 := (h.each j hj).mono (h.each i hi) (by rw [hm]; exact mostT_le hj)
      omega
    have hK : normK ls = normK xs + k := by
      unfold normK
      rw [hml, ← hm, topS_rg, topS_rg]
      exact (h.each i hi).top hx0
    have hsc : ∀ j, j < xs.length → sqT xs (normK xs) j = sqT ls (normK ls) j := fun j hj => by
      have e : scT xs (normK xs) j = scT ls (normK ls) j := by
        unfold scT ldS
        rw [(h.each j hj).sign, (h.each j hj).ab, hK, Rat.mul_assoc, ← pw_add, show k + -(normK xs + k) = -normK xs from by omega]
      unfold sqT
      rw [e]
    have hsum := sumT_congr xs.length hsc
    have e1 : normF xs = ldS (sqrtF (sumT (sqT xs (normK xs)) xs.length)) (normK xs) := by unfold normF; rw [if_pos ⟨hx, h0⟩]
    have e2 : normF ls = ldS (sqrtF (sumT (sqT xs (normK xs)) xs.length)) (normK xs + k) := by unfold normF; rw [if_pos ⟨hl, hz⟩, hK, h.len, ← hK, ← hsum]
    obtain ⟨r1, r2⟩ := root_range hx hn h0
    have k1 : -400 ≤ normK xs ∧ normK xs ≤ 400 := by
      have q := mostT_in hx xs.length (Nat.le_refl _)
      exact topS_lo400 (m := mostT xs xs.length) (by rw [rg_small (by omega)]; omega) (by rw [rg_small (by omega)]; omega)
    have k2 : -400 ≤ normK ls ∧ normK ls ≤ 400 := by
      have q := mostT_in hl ls.length (Nat.le_refl _)
      exact topS_lo400 (m := mostT ls ls.length) (by rw [rg_small (by omega)]; omega) (by rw [rg_small (by omega)]; omega)
    rw [hK] at k2
    rw [e1, e2]
    generalize sqrtF (sumT (sqT xs (normK xs)) xs.length) = S at *
    have hs1 := rr_spec (mul_pw_nonneg S (normK xs))
    have hs2 := rr_spec (mul_pw_nonneg S (normK xs + k))
    have hv : ab (fv S) * pw (normK xs + k) = ab (fv S) * pw (normK xs) * pw k := by rw [pw_add, ← Rat.mul_assoc]
    have rng : ∀ K : Int, -400 ≤ K → K ≤ 400 → pw (-900) ≤ ab (fv S) * pw K ∧ ab (fv S) * pw K ≤ pw 900 := fun K c1 c2 => by
      have t1 := Rat.mul_le_mul_of_nonneg_right r1 (Rat.le_of_lt (pw_pos K))
      have t2 := Rat.mul_le_mul_of_nonneg_right r2 (Rat.le_of_lt (pw_pos K))
      rw [← pw_add] at t1 t2
      exact ⟨Rat.le_trans (pw_le (by omega)) t1, Rat.le_trans t2 (pw_le (by omega))⟩
    obtain ⟨u1, u2⟩ := rng _ k1.1 k1.2
    obtain ⟨u3, u4⟩ := rng _ k2.1 k2.2
    unfold ldS
    rw [hv] at hs2 u3 u4 ⊢
    exact rnd_sk hs1 hs2 (.inr ⟨u1, u2, u3, u4⟩)

end Lev
