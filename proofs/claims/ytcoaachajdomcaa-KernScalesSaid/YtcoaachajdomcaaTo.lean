/- Scaling by powers of two, and rounding: in the middle of the range they go hand in hand. -/
import Derived.Test.YtcoaachajdomcaaTn
import Derived.Test.YtcoaachajdomcaaFi
namespace Lev

theorem mid_up {e e' m : Nat} {k : Int} (hk : (e' : Int) = (e : Int) + k) (h1 : 1 ≤ e) (h2 : 1 ≤ e') (hm : 4503599627370496 ≤ m) (hm2 : m < 9007199254740992) :
    (mid2 (e' * 4503599627370496 + m) : Rat) = (mid2 (e * 4503599627370496 + m) : Rat) * pw k ∧
    (mid2 (e' * 4503599627370496 + m - 1) : Rat) = (mid2 (e * 4503599627370496 + m - 1) : Rat) * pw k ∧
    (rm (e' * 4503599627370496 + m) : Rat) = (rm (e * 4503599627370496 + m) : Rat) * pw k := by
  have hp : pw (e' : Int) = pw (e : Int) * pw k := by rw [hk, pw_add]
  have hp1 : pw ((e' - 1 : Nat) : Int) = pw ((e - 1 : Nat) : Int) * pw k := by rw [← pw_add]; congr 1; omega
  refine ⟨?_, ?_, ?_⟩
  · rw [mid2_seg e' m (.inr hm) hm2, mid2_seg e m (.inr hm) hm2, Rat.natCast_mul, Rat.natCast_mul, ← pw_nat, ← pw_nat, hp, Rat.mul_assoc]
  · rcases Nat.lt_or_ge 4503599627370496 m with h | h
    · rw [show e' * 4503599627370496 + m - 1 = e' * 4503599627370496 + (m - 1) from by omega, show e * 4503599627370496 + m - 1 = e * 4503599627370496 + (m - 1) from by omega,
        mid2_seg e' (m - 1) (.inr (by omega)) (by omega), mid2_seg e (m - 1) (.inr (by omega)) (by omega), Rat.natCast_mul, Rat.natCast_mul, ← pw_nat, ← pw_nat, hp, Rat.mul_assoc]
    · rw [show e' * 4503599627370496 + m - 1 = (e' - 1) * 4503599627370496 + 9007199254740991 from by omega, show e * 4503599627370496 + m - 1 = (e - 1) * 4503599627370496 + 9007199254740991 from by omega,
        mid2_seg (e' - 1) 9007199254740991 (.inr (by decide)) (by decide), mid2_seg (e - 1) 9007199254740991 (.inr (by decide)) (by decide), Rat.natCast_mul, Rat.natCast_mul, ← pw_nat, ← pw_nat, hp1, Rat.mul_assoc]
  · rw [rm_seg e' m (.inr hm) (by omega), rm_seg e m (.inr hm) (by omega), Rat.natCast_mul, Rat.natCast_mul, ← pw_nat, ← pw_nat, hp, Rat.mul_assoc]

theorem pw_lt_of {a b : Int} (h : pw a ≤ pw b) : a ≤ b := by
  rcases Int.lt_or_le b a with h1 | h1
  · exact absurd h (by have := pw_lt h1; grind)
  · exact h1

theorem pwk_cancel {a b : Rat} {k : Int} (h : a * pw k = b * pw k) : a = b := by
  have h1 : a * pw k * pw (-k) = b * pw k * pw (-k) := by rw [h]
  have h2 := pw_neg k
  grind
theorem pw_half52 (a : Int) : pw (52 + a + -1074) = 2 * pw (51 + a + -1074) := by
  rw [show 52 + a + -1074 = 51 + a + -1074 + 1 from by omega, pw_double]
theorem pw_half54 (a : Int) : pw (54 + a) = 2 * pw (53 + a) := by
  rw [show 54 + a = 53 + a + 1 from by omega, pw_double]
theorem par (e m : Nat) : (e * 4503599627370496 + m) % 2 = m % 2 := by omega
theorem low_rung {e m : Nat} (he : 1 ≤ e) (hm : 4503599627370496 ≤ m) : (e - 1) * 4503599627370496 + 4503599627370496 ≤ e * 4503599627370496 + m - 1 + 1 := by
  obtain ⟨g, rfl⟩ : ∃ g, e = g + 1 := ⟨e - 1, by omega⟩
  rw [Nat.add_sub_cancel]
  omega
theorem top_rung {e m : Nat} (he : e ≤ 2000) (hm : m < 9007199254740992) : e * 4503599627370496 + m < INF := by
  rw [INF_eq]
  have := Nat.mul_le_mul_right 4503599627370496 he
  omega
theorem two_mul_k {x M u P : Rat} (h : 2 * x ≤ M * u) (hP : 0 ≤ P) : 2 * (x * P) ≤ M * P * u := by
  have := Rat.mul_le_mul_of_nonneg_right h hP
  grind
theorem two_mul_k' {x M u P : Rat} (h : M * u ≤ 2 * x) (hP : 0 ≤ P) : M * P * u ≤ 2 * (x * P) := by
  have := Rat.mul_le_mul_of_nonneg_right h hP
  grind

/-- What is rounded, scaled, is what is scaled, rounded. -/
theorem rnd_scale {x : Rat} {r : Nat} {k : Int} (h : IsRnd x r) (hlo : pw (-900) ≤ x) (hhi : x ≤ pw 900) (hlo2 : pw (-900) ≤ x * pw k) (hhi2 : x * pw k ≤ pw 900) :
    ∃ r', r' < INF ∧ r < INF ∧ IsRnd (x * pw k) r' ∧ (rm r' : Rat) * pw (-1074) = (rm r : Rat) * pw (-1074) * pw k := by
  have hI := INF_eq
  have b1 : (122 * 4503599627370496 + 4503599627370496 : Nat) ≤ r := by
    have := IsRnd.exact (r := 122 * 4503599627370496 + 4503599627370496) (by omega)
    rw [rm_pow 122] at this
    exact this.mono h hlo
  have b2 : r ≤ (1922 * 4503599627370496 + 4503599627370496 : Nat) := by
    have := IsRnd.exact (r := 1922 * 4503599627370496 + 4503599627370496) (by omega)
    rw [rm_pow 1922] at this
    exact h.mono this hhi
  obtain ⟨e, m, rfl, he, hm⟩ := rung_seg r
  have he1 : 122 ≤ e ∧ 4503599627370496 ≤ m := by rcases he with h | h <;> omega
  obtain ⟨he1, hm1⟩ := he1
  have hrI : e * 4503599627370496 + m < INF := by omega
  have hr0 : 0 < e * 4503599627370496 + m := by omega
  have hP := pw_pos k
  have hP0 := Rat.le_of_lt hP
  obtain ⟨A1, A2⟩ := h.2.1 hrI
  obtain ⟨B1, B2⟩ := h.2.2 hr0
  have h54 : ((2 * m + 1 : Nat) : Rat) ≤ pw 54 := by
    rw [show (54 : Int) = ((54 : Nat) : Int) from rfl, pw_nat]; exact cast_le.2 (by omega)
  have hlow : ((4503599627370496 * 2 ^ (e - 1) : Nat) : Rat) ≤ (mid2 (e * 4503599627370496 + m - 1) : Rat) := by
    refine cast_le.2 ?_
    have h2 : rm ((e - 1) * 4503599627370496 + 4503599627370496) ≤ rm (e * 4503599627370496 + m - 1 + 1) := rm_mono (low_rung (Nat.le_trans (by decide) he1) hm1)
    rw [rm_seg (e - 1) 4503599627370496 (.inr (Nat.le_refl _)) (by decide)] at h2
    unfold mid2
    exact Nat.le_trans h2 (Nat.le_add_left _ _)
  have hk1 : 121 ≤ (e : Int) + k := by
    have u1 := A1
    rw [mid2_seg e m (.inr hm1) hm, Rat.natCast_mul, ← pw_nat, Rat.mul_assoc, ← pw_add] at u1
    have h2 := Rat.mul_le_mul_of_nonneg_right h54 (Rat.le_of_lt (pw_pos ((e : Int) + -1074)))
    rw [← pw_add, pw_half54] at h2
    have h3 : x ≤ pw (53 + ((e : Int) + -1074)) := by
      have := Rat.le_trans u1 h2
      exact Rat.le_of_mul_le_mul_left this (by decide)
    have h5 := Rat.mul_le_mul_of_nonneg_right h3 hP0
    rw [← pw_add] at h5
    have h6 := pw_lt_of (Rat.le_trans hlo2 h5)
    clear A1 A2 B1 B2 u1 h2 h3 h5 h54 hlow b1 b2 hrI hr0 hm hm1 he
    omega
  have hk2 : (e : Int) + k ≤ 2000 := by
    have h3 := Rat.mul_le_mul_of_nonneg_right hlow (Rat.le_of_lt (pw_pos (-1074)))
    rw [Rat.natCast_mul, ← pw_nat, ← pw52, ← pw_add, ← pw_add, pw_half52] at h3
    have h5 : pw (51 + ((e - 1 : Nat) : Int) + -1074) ≤ x := Rat.le_of_mul_le_mul_left (Rat.le_trans h3 B1) (by decide)
    have h6 := Rat.mul_le_mul_of_nonneg_right h5 hP0
    rw [← pw_add] at h6
    have h7 := pw_lt_of (Rat.le_trans h6 hhi2)
    clear A1 A2 B1 B2 h3 h5 h6 h54 hlow b1 b2 hrI hr0 hm hm1 he
    omega
  obtain ⟨e', he'⟩ : ∃ e' : Nat, (e' : Int) = (e : Int) + k := ⟨((e : Int) + k).toNat, by clear A1 A2 B1 B2 h54 hlow b1 b2 hrI hr0 hm hm1 he; omega⟩
  have hE : 1 ≤ e' ∧ e' ≤ 2000 := by clear A1 A2 B1 B2 h54 hlow b1 b2 hrI hr0 hm hm1 he; omega
  obtain ⟨q1, q2, q3⟩ := mid_up he' (Nat.le_trans (by decide) he1) hE.1 hm1 hm
  have hlt : e' * 4503599627370496 + m < INF := top_rung hE.2 hm
  refine ⟨e' * 4503599627370496 + m, hlt, hrI, ⟨Nat.le_of_lt hlt, fun _ => ?_, fun _ => ?_⟩, by rw [q3]; grind⟩
  · rw [q1]
    refine ⟨two_mul_k A1 hP0, fun heq => ?_⟩
    have h2 : 2 * x = (mid2 (e * 4503599627370496 + m) : Rat) * pw (-1074) := pwk_cancel (k := k) (by rw [Rat.mul_assoc, heq, Rat.mul_assoc, Rat.mul_assoc, Rat.mul_comm (pw k)])
    have h3 := A2 h2
    rw [par] at h3 ⊢
    exact h3
  · rw [q2]
    refine ⟨two_mul_k' B1 hP0, fun heq => ?_⟩
    have h2 : (mid2 (e * 4503599627370496 + m - 1) : Rat) * pw (-1074) = 2 * x := pwk_cancel (k := k) (by rw [Rat.mul_assoc 2, ← heq, Rat.mul_assoc, Rat.mul_assoc, Rat.mul_comm (pw k)])
    have h3 := B2 h2
    rw [par] at h3 ⊢
    exact h3

/-- y is x, scaled by k, without an error. -/
structure Sk (x : Nat) (k : Int) (y : Nat) : Prop where
  sign : sg y = sg x
  lx : x < 18446744073709551616
  ly : y < 18446744073709551616
  fx : fin x
  fy : fin y
  val : (rm (rg y) : Rat) * pw (-1074) = (rm (rg x) : Rat) * pw (-1074) * pw k
theorem Sk.ab {x y : Nat} {k : Int} (h : Sk x k y) : ab (fv y) = Lev.ab (fv x) * pw k := by rw [ab_fv, ab_fv]; exact h.val
theorem Sk.fv {x y : Nat} {k : Int} (h : Sk x k y) : fv y = Lev.fv x * pw k := by
  unfold Lev.fv; rw [h.sign, h.val, sv_scale]
theorem Sk.zero {x y : Nat} {k : Int} (h : Sk x k y) : rg x = 0 ↔ rg y = 0 := by
  have hp := pw_ne k
  have hu := pw_ne (-1074)
  constructor
  · intro h0
    have := h.val
    rw [h0, rm_zero, show ((0 : Nat) : Rat) = 0 from rfl, Rat.zero_mul, Rat.zero_mul] at this
    have h2 : rm (rg y) = rm 0 := by
      refine cancel_pw (k := -1074) ?_
      rw [this, rm_zero, show ((0 : Nat) : Rat) = 0 from rfl, Rat.zero_mul]
    exact rm_inj h2
  · intro h0
    have := h.val
    rw [h0, rm_zero, show ((0 : Nat) : Rat) = 0 from rfl, Rat.zero_mul] at this
    have h3 : (rm (rg x) : Rat) * pw (-1074) = 0 := pwk_cancel (k := k) (by rw [← this, Rat.zero_mul])
    have h2 : rm (rg x) = rm 0 := by
      refine cancel_pw (k := -1074) ?_
      rw [h3, rm_zero, show ((0 : Nat) : Rat) = 0 from rfl, Rat.zero_mul]
    exact rm_inj h2
theorem scale_sk {x : Nat} {k : Int} (hx : x < 18446744073709551616) (hf : fin x) (h : scaleB x k = true) : Sk x k (scaleF x k) := by
  by_cases h0 : rg x = 0
  · have hk : kindS x = 0 := kindS_zero h0
    have e : scaleF x k = x := by unfold scaleF; rw [if_pos hk]
    rw [e]
    exact ⟨rfl, hx, hx, hf, hf, by rw [h0, rm_zero, show ((0 : Nat) : Rat) = 0 from rfl, Rat.zero_mul, Rat.zero_mul]⟩
  · have hI := INF_eq
    have hk : kindS x = 1 := kindS_fin hf h0
    unfold scaleB at h
    rw [if_neg (by omega), if_pos hk] at h
    obtain ⟨r, hr1, hr2⟩ := makeB_rep (by have := mantS_pos h0; omega) h
    have e : scaleF x k = D.word (sg x) r := by
      unfold scaleF
      rw [if_neg (by omega), if_pos hk, (make_yes (neg := sg x) hr1 hr2).2]
    have h63 : r < 9223372036854775808 := by omega
    rw [e]
    refine ⟨sg_word _ _ h63, hx, word_lt64 _ _ h63, hf, by unfold fin; rw [rg_word _ _ h63]; exact hr1, ?_⟩
    rw [rg_word _ _ h63, hr2, mantS_val, pw_add]; grind
theorem sk_scale {x y : Nat} {k : Int} (h : Sk x k y) : scaleB x k = true ∧ scaleF x k = y := by
  by_cases h0 : rg x = 0
  · have hk : kindS x = 0 := kindS_zero h0
    refine ⟨by unfold scaleB; rw [if_pos hk], ?_⟩
    unfold scaleF
    rw [if_pos hk]
    exact eq_of_sg_rg h.lx h.ly h.sign.symm (by rw [h0, h.zero.1 h0])
  · have hk : kindS x = 1 := kindS_fin h.fx h0
    have hv : (rm (rg y) : Rat) * pw (-1074) = (mantS x : Rat) * pw (expS x + k) := by rw [h.val, mantS_val, pw_add]; grind
    obtain ⟨m1, m2⟩ := make_yes (neg := sg x) h.fy hv
    refine ⟨by unfold scaleB; rw [if_neg (by omega), if_pos hk]; exact m1, ?_⟩
    unfold scaleF
    rw [if_neg (by omega), if_pos hk, m2, ← h.sign]
    exact word_sg_rg y h.ly

theorem inS_ge {x : Nat} (h : inS x = true) (h0 : rg x ≠ 0) : pw (-400) ≤ ab (fv x) := by
  unfold inS at h
  rw [decide_eq_true_eq] at h
  have h1 : 2805742567851819008 ≤ rg x := by omega
  have h2 := unit_le.2 (rm_mono h1)
  rw [show 2805742567851819008 = 622 * 4503599627370496 + 4503599627370496 from by decide, rm_pow 622] at h2
  rw [ab_fv]
  exact h2

theorem word_sk {s : Bool} {r r' : Nat} {k : Int} (h1 : r < INF) (h2 : r' < INF) (h : (rm r' : Rat) * pw (-1074) = (rm r : Rat) * pw (-1074) * pw k) : Sk (D.word s r) k (D.word s r') := by
  have hI := INF_eq
  have a : r < 9223372036854775808 := by omega
  have b : r' < 9223372036854775808 := by omega
  exact ⟨by rw [sg_word _ _ a, sg_word _ _ b], word_lt64 _ _ a, word_lt64 _ _ b, by unfold fin; rw [rg_word _ _ a]; exact h1, by unfold fin; rw [rg_word _ _ b]; exact h2, by rw [rg_word _ _ a, rg_word _ _ b]; exact h⟩
theorem zero_sk {s : Bool} {k : Int} : Sk (D.word s 0) k (D.word s 0) := word_sk (by decide) (by decide) (by rw [rm_zero, show ((0 : Nat) : Rat) = 0 from rfl, Rat.zero_mul, Rat.zero_mul])

/-- Rounded, and scaled. -/
theorem rnd_sk {s : Bool} {x : Rat} {r r' : Nat} {k : Int} (h : IsRnd x r) (h' : IsRnd (x * pw k) r') (hx : x = 0 ∨ (pw (-900) ≤ x ∧ x ≤ pw 900 ∧ pw (-900) ≤ x * pw k ∧ x * pw k ≤ pw 900)) : Sk (D.word s r) k (D.word s r') := by
  rcases hx with rfl | ⟨h1, h2, h3, h4⟩
  · rw [Rat.zero_mul] at h'
    rw [h.zero_eq, h'.zero_eq]
    exact zero_sk
  · obtain ⟨q, q1, q2, q3, q4⟩ := rnd_scale h h1 h2 h3 h4
    rw [h'.unique q3]
    exact word_sk q2 q1 q4

theorem sk_mul {a l b : Nat} {k : Int} (h : Sk a k l) (ha : inS a = true) (hl : inS l = true) (hb : inS b = true) : Sk (fmul a b) k (fmul l b) := by
  obtain ⟨fa, ba⟩ := inS_bd ha
  obtain ⟨fl, bl⟩ := inS_bd hl
  obtain ⟨fb, bb⟩ := inS_bd hb
  obtain ⟨r, m1, m2⟩ := mul_spec fa fb
  obtain ⟨r', n1, n2⟩ := mul_spec fl fb
  have e1 : fmul a b = D.word (sg a ^^ sg b) r := by unfold fmul; rw [m1]; rfl
  have e2 : fmul l b = D.word (sg a ^^ sg b) r' := by unfold fmul; rw [n1, h.sign]; rfl
  have hx : ab (fv l * fv b) = ab (fv a * fv b) * pw k := by rw [ab_mul, ab_mul, h.ab]; grind
  rw [hx] at n2
  rw [e1, e2]
  refine rnd_sk m2 n2 ?_
  have hpm : ∀ {x y : Rat}, 0 ≤ x → x ≤ pw 400 → 0 ≤ y → y ≤ pw 400 → x * y ≤ pw 900 := fun {x y} hx0 hx hy0 hy => by
    have t1 := Rat.mul_le_mul_of_nonneg_right hx hy0
    have t2 := Rat.mul_le_mul_of_nonneg_left hy (Rat.le_of_lt (pw_pos 400))
    rw [← pw_add] at t2
    exact Rat.le_trans t1 (Rat.le_trans t2 (pw_le (by decide)))
  have hpl : ∀ {x y : Rat}, pw (-400) ≤ x → pw (-400) ≤ y → pw (-900) ≤ x * y := fun {x y} hx hy => by
    have t1 := Rat.mul_le_mul_of_nonneg_right hx (Rat.le_trans (Rat.le_of_lt (pw_pos (-400))) hy)
    have t2 := Rat.mul_le_mul_of_nonneg_left hy (Rat.le_of_lt (pw_pos (-400)))
    rw [← pw_add] at t2
    exact Rat.le_trans (pw_le (by decide)) (Rat.le_trans t2 t1)
  by_cases h0 : rg a = 0 ∨ rg b = 0
  · left
    rw [ab_mul, ab_fv, ab_fv]
    rcases h0 with h0 | h0 <;> rw [h0, rm_zero, show ((0 : Nat) : Rat) = 0 from rfl, Rat.zero_mul]
    · rw [Rat.zero_mul]
    · rw [Rat.mul_zero]
  · right
    have na : rg a ≠ 0 := fun hh => h0 (.inl hh)
    have nb : rg b ≠ 0 := fun hh => h0 (.inr hh)
    have nl : rg l ≠ 0 := fun hh => na (h.zero.2 hh)
    have ga := inS_ge ha na
    have gb := inS_ge hb nb
    have gl := inS_ge hl nl
    rw [← hx, ab_mul, ab_mul]
    exact ⟨hpl ga gb, hpm (ab_nonneg _) ba (ab_nonneg _) bb, hpl gl gb, hpm (ab_nonneg _) bl (ab_nonneg _) bb⟩

end Lev
