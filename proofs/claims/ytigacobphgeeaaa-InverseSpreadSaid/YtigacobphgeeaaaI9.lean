/- Plain texts, laid as one. -/
import Derived.Test.YtigacobphgeeaaaE9
/- Plain: differences, quotients, roots that are not too small. -/
set_option linter.unusedVariables false
namespace Lev
open Ieee

theorem fsub_word {a b : Nat} (ha : fin a) (hb : fin b) (hf : fin (fsub a b)) : ∃ r, r < INF ∧ fsub a b = D.word (sumSg (sg a) (!sg b) (fv a - fv b)) r ∧ IsRnd (ab (fv a - fv b)) r := by
  obtain ⟨r, h1, h2⟩ := sub_spec ha hb
  have e : fsub a b = D.word (sumSg (sg a) (!sg b) (fv a - fv b)) r := by unfold fsub; rw [h1]; rfl
  refine ⟨r, ?_, e, h2⟩
  have h3 := h2.lt63
  rw [e] at hf; unfold fin at hf; rwa [rg_word _ _ h3] at hf
theorem fsub_err {a b : Nat} (ha : fin a) (hb : fin b) (hf : fin (fsub a b)) : ab (fv (fsub a b) - (fv a - fv b)) ≤ uu * ab (fv a - fv b) := by
  rw [← uu_eq]
  obtain ⟨r, hr, e, h⟩ := fsub_word ha hb hf
  obtain ⟨k1, e1⟩ := fv_unit a
  obtain ⟨k2, e2⟩ := fv_unit b
  obtain ⟨n, hn⟩ := ab_unit (z := fv a - fv b) (k := k1 - k2) (by rw [e1, e2, Rat.intCast_sub]; grind)
  rw [e, fv_word hr, sum_sg_ab _ _ _ _ (fun h0 => ?_)]
  · exact rnd_err_lat h hr hn
  · rw [h0, ab_zero] at h
    rw [h.zero_eq, rm_zero, show ((0 : Nat) : Rat) = 0 from rfl, Rat.zero_mul]
theorem sub_bd {a b : Nat} {B : Rat} (ha : fin a) (hb : fin b) (h : ab (fv a) + ab (fv b) ≤ B) (hB : rep B) : D.sub a b = some (fsub a b) ∧ fin (fsub a b) ∧ ab (fv (fsub a b)) ≤ B ∧ fsub a b < 18446744073709551616 := by
  have hI := INF_eq
  obtain ⟨r, h1, h2⟩ := sub_spec ha hb
  obtain ⟨k1, k2⟩ := rnd_le h2 (Rat.le_trans (by have := ab_add (fv a) (-fv b); rw [ab_neg, show fv a + -fv b = fv a - fv b from by grind] at this; exact this) h) hB
  have e : fsub a b = D.word (sumSg (sg a) (!sg b) (fv a - fv b)) r := by unfold fsub; rw [h1]; rfl
  rw [e]
  exact ⟨h1, fin_word k1, by rw [ab_word k1]; exact k2, word_lt64 _ _ (by omega)⟩
theorem fadd_err' {a b : Nat} (ha : fin a) (hb : fin b) (hf : fin (fadd a b)) : ab (fv (fadd a b) - (fv a + fv b)) ≤ uu * ab (fv a + fv b) := by rw [← uu_eq]; exact fadd_err ha hb hf
/-- What is lost at most where floats are dense. -/
def ηη : Rat := pw (-1075)
theorem ηη_pos : 0 < ηη := pw_pos _
theorem fmul_err' {a b : Nat} (ha : fin a) (hb : fin b) (hf : fin (fmul a b)) : ab (fv (fmul a b) - fv a * fv b) ≤ uu * ab (fv a * fv b) + ηη := by rw [← uu_eq]; exact fmul_err ha hb hf
/-- The quotient without an error. -/
theorem fdiv_err {a b : Nat} {q : Rat} (ha : fin a) (hb : fin b) (h0 : rg b ≠ 0) (hf : fin (fdiv a b)) (hq : q * fv b = fv a) : ab (fv (fdiv a b) - q) ≤ uu * ab q + ηη := by
  rw [← uu_eq]
  obtain ⟨r, h1, h2⟩ := div_spec ha hb h0
  have e : fdiv a b = D.word (sg a ^^ sg b) r := by unfold fdiv; rw [h1]; rfl
  have h3 := h2.lt63
  have hr : r < INF := by rw [e] at hf; unfold fin at hf; rwa [rg_word _ _ h3] at hf
  have hb0 : 0 < ab (fv b) := by
    rw [ab_fv]; exact Rat.mul_pos (Rat.natCast_pos.2 (rm_pos (by omega))) (pw_pos _)
  have hqa : ab q * ab (fv b) = ab (fv a) := by rw [← ab_mul, hq]
  have hqe : ab (fv a) / ab (fv b) = ab q := by
    rw [← hqa, Rat.div_def, Rat.mul_assoc, Rat.mul_inv_cancel _ (by grind), Rat.mul_one]
  rw [hqe] at h2
  have hqs : q = sv (sg a ^^ sg b) (ab q) := by
    have hbv : sv (sg b) (ab (fv b)) = fv b := fv_sv b
    have hav : sv (sg a) (ab (fv a)) = fv a := fv_sv a
    have h4 : sv (sg a ^^ sg b) (ab q) * fv b = fv a := by
      rw [← hbv, sv_mul, hqa]
      have : ((sg a ^^ sg b) ^^ sg b) = sg a := by cases sg a <;> cases sg b <;> rfl
      rw [this, hav]
    have hbne : fv b ≠ 0 := fun h => by rw [h, ab_zero] at hb0; grind
    have h5 : (q - sv (sg a ^^ sg b) (ab q)) * fv b = 0 := by grind
    rcases Rat.mul_eq_zero.1 h5 with h6 | h6
    · grind
    · exact absurd h6 hbne
  rw [e, fv_word hr]
  conv => lhs; arg 1; arg 2; rw [hqs]
  rw [sv_sub, ab_sv']
  exact rnd_err_any h2 hr (ab_nonneg _)
theorem sq_key {k : Rat} (h1 : (4503599627370496 : Rat) ≤ k + 1) (h2 : (k + 1) * (k + 1) ≤ (k + 1) * 9007199254740991) : uu * (k + 1) * (k + 1) + (k + 1 / 2) * (k + 1 / 2) < (k + 1) * (k + 1) := by
  unfold uu
  grind
theorem sq_end {u M M2 GG p : Rat} (h8 : -(u * (M * GG)) ≤ p - M * GG) (h7 : p ≤ M2 * GG) (h : u * (M * GG) + M2 * GG < M * GG) : False := by grind
/-- The root of what is not below a square is not below what was squared. -/
theorem sqrt_ge {y s : Nat} (hy : fin y) (hyb : ab (fv y) ≤ pw 30) (hbig : pw (-1022) ≤ fv y * fv y) (hfy : fin (fmul y y)) (hs : fin s) (hg : sg s = false) (hle : rg (fmul y y) ≤ rg s) : ab (fv y) ≤ fv (sqrtF s) := by
  have hI := INF_eq
  have hsgy := sq_sg hy
  have hps : 0 < fv y * fv y := by have := pw_pos (-1022); grind
  have hy0 : rg y ≠ 0 := fun h => by rw [fv_of_rg0 h] at hps; grind
  have hfs : fv (fmul y y) ≤ fv s := by
    have h1 : fv s = (rm (rg s) : Rat) * pw (-1074) := by unfold fv; rw [hg]; rfl
    have h2 : fv (fmul y y) = (rm (rg (fmul y y)) : Rat) * pw (-1074) := by unfold fv; rw [hsgy]; rfl
    rw [h1, h2]; exact unit_le.2 (rm_mono hle)
  have hsq := fmul_err_big hy hy hfy (.inr (by rw [ab_of (Rat.le_of_lt hps)]; exact hbig))
  rw [ab_of (Rat.le_of_lt hps), uu_eq, ab_le_iff] at hsq
  have hs0 : rg s ≠ 0 := fun h => by
    have h1 := fv_of_rg0 h
    have : uu = 1 / 9007199254740992 := rfl
    rw [this] at hsq
    grind
  obtain ⟨r, h1, h2⟩ := sqrt_spec hs hg hs0
  have e : sqrtF s = D.word false r := by unfold sqrtF; rw [h1]; rfl
  obtain ⟨_, hf, _, _⟩ := sqrt_ok hs hg
  have hr63 : r < 9223372036854775808 := Nat.lt_of_le_of_lt h2.1 (by decide)
  have hr : r < INF := by rw [e] at hf; unfold fin at hf; rwa [rg_word _ _ hr63] at hf
  rw [e, fv_word hr, sv_false, ab_fv]
  refine unit_le.2 (rm_mono ?_)
  rcases Nat.lt_or_ge r (rg y) with hlt | hge
  · exfalso
    obtain ⟨h3, _⟩ := h2.2.1 hr
    obtain ⟨ee, k, hk, hk1, hk2⟩ := rung_seg (rg y - 1)
    have hr1 := rm_seg ee k hk1 (Nat.le_of_lt hk2)
    have hr2 := rm_succ_seg ee k hk1 hk2
    rw [← hk] at hr1 hr2
    rw [show rg y - 1 + 1 = rg y from by omega] at hr2
    have hm : mid2 (rg y - 1) = (2 * k + 1) * 2 ^ ee := by
      unfold mid2; rw [show rg y - 1 + 1 = rg y from by omega, hr1, hr2, ← Nat.add_mul]; congr 1; omega
    have hmm : mid2 r ≤ mid2 (rg y - 1) := mid2_le (by omega)
    have hq := pw_pos (-1075)
    have hmr : (mid2 r : Rat) * pw (-1075) ≤ (mid2 (rg y - 1) : Rat) * pw (-1075) := Rat.mul_le_mul_of_nonneg_right (cast_le.2 hmm) (Rat.le_of_lt hq)
    have hmq := sq_le (Rat.mul_nonneg Rat.natCast_nonneg (Rat.le_of_lt hq)) hmr
    have hU : pw (-1074) = 2 * pw (-1075) := half_unit
    -- y = (k + 1) G, the middle below is (k + 1/2) G
    obtain ⟨G, hG⟩ : ∃ G : Rat, G = ((2 ^ ee : Nat) : Rat) * pw (-1074) := ⟨_, rfl⟩
    have hG0 : 0 < G := by rw [hG]; exact Rat.mul_pos (Rat.natCast_pos.2 (Nat.pow_pos (by decide))) (pw_pos _)
    have hyv : ab (fv y) = ((k : Rat) + 1) * G := by
      rw [ab_fv, hr2, hG, Rat.natCast_mul, Rat.natCast_add]; grind
    have hmv : (mid2 (rg y - 1) : Rat) * pw (-1075) = ((k : Rat) + 1 / 2) * G := by
      rw [hm, hG, hU, Rat.natCast_mul, Rat.natCast_add, Rat.natCast_mul]
      show (2 * (k : Rat) + 1) * _ * _ = _
      grind
    rw [hmv] at hmq
    have hyy : fv y * fv y = ((k : Rat) + 1) * G * (((k : Rat) + 1) * G) := by
      rw [← hyv, ← ab_mul, ab_of (Rat.le_of_lt hps)]
    by_cases hkp : k + 1 = 9007199254740992
    · -- a power of two: its square is just that
      have hky : fv y * fv y = pw (106 + 2 * (ee : Int) - 2148) := by
        rw [hyy, hG]
        have e1 : ((k : Rat) + 1) = pw 53 := by
          rw [pw53, ← hkp, Rat.natCast_add]; rfl
        rw [e1, ← pw_nat, ← pw_add, ← pw_add, ← pw_add]
        congr 1; omega
      have hrep : rep (fv y * fv y) := by
        rw [hky]
        refine rep_pw1 ?_ ?_
        · have h5 : pw (-1022) ≤ pw (106 + 2 * (ee : Int) - 2148) := by rw [← hky]; exact hbig
          have := pw_lt_of h5; omega
        · have h5 := sq_le (ab_nonneg _) hyb
          rw [← ab_mul, ab_of (Rat.le_of_lt hps), hky, ← pw_add] at h5
          have := pw_lt_of h5; omega
      obtain ⟨R, hR1, hR2⟩ := hrep
      obtain ⟨q, hq1, hq2, hq3⟩ := fmul_word hy hy hfy
      rw [ab_of (Rat.le_of_lt hps), ← hR2] at hq3
      have hqR := hq3.unique (IsRnd.exact hR1)
      have hexact : fv (fmul y y) = fv y * fv y := by
        rw [hq2, fv_word hq1, hqR, hR2, Bool.xor_self]; rfl
      have hk0 : (0 : Rat) ≤ (k : Rat) := Rat.natCast_nonneg
      have hGG : 0 < G * G := Rat.mul_pos hG0 hG0
      have key : ((k : Rat) + 1 / 2) * ((k : Rat) + 1 / 2) < ((k : Rat) + 1) * ((k : Rat) + 1) := by grind
      have key2 := Rat.mul_lt_mul_of_pos_right key hGG
      rw [hexact, hyy] at hfs
      have e3 : ((k : Rat) + 1) * G * (((k : Rat) + 1) * G) = ((k : Rat) + 1) * ((k : Rat) + 1) * (G * G) := by grind
      have e4 : ((k : Rat) + 1 / 2) * G * (((k : Rat) + 1 / 2) * G) = ((k : Rat) + 1 / 2) * ((k : Rat) + 1 / 2) * (G * G) := by grind
      rw [e3] at hfs
      rw [e4] at hmq
      have := Rat.le_trans (Rat.le_trans hfs h3) hmq
      exact absurd key2 (Rat.not_lt.2 this)
    · have hk3 : (k : Rat) + 2 ≤ 9007199254740992 := by
        have := cast_le.2 (show k + 2 ≤ 9007199254740992 by omega)
        rw [Rat.natCast_add] at this; exact this
      have hk4 : (4503599627370496 : Rat) ≤ (k : Rat) + 1 := by
        have : 4503599627370496 ≤ k + 1 := by
          rcases hk1 with h | h
          · exfalso
            subst h
            rw [Nat.pow_zero, Nat.mul_one] at hr2
            have h4 : ab (fv y) ≤ pw 53 * pw (-1074) := by
              rw [ab_fv, hr2]
              refine Rat.mul_le_mul_of_nonneg_right ?_ (Rat.le_of_lt (pw_pos _))
              rw [pw53]; exact cast_le.2 (by omega)
            rw [← pw_add] at h4
            have h5 := sq_le (ab_nonneg _) h4
            rw [← ab_mul, ab_of (Rat.le_of_lt hps), ← pw_add] at h5
            have h6 : pw (53 + -1074 + (53 + -1074)) < pw (-1022) := pw_lt (by decide)
            grind
          · omega
        have := cast_le.2 this
        rw [Rat.natCast_add] at this; exact this
      have hGG : 0 < G * G := Rat.mul_pos hG0 hG0
      have hm2 : ((k : Rat) + 1) * ((k : Rat) + 1) ≤ ((k : Rat) + 1) * 9007199254740991 := Rat.mul_le_mul_of_nonneg_left (by grind) (by grind)
      have key := sq_key hk4 hm2
      have key2 := Rat.mul_lt_mul_of_pos_right key hGG
      have e3 : ((k : Rat) + 1) * G * (((k : Rat) + 1) * G) = ((k : Rat) + 1) * ((k : Rat) + 1) * (G * G) := by grind
      have e4 : ((k : Rat) + 1 / 2) * G * (((k : Rat) + 1 / 2) * G) = ((k : Rat) + 1 / 2) * ((k : Rat) + 1 / 2) * (G * G) := by grind
      rw [e4] at hmq
      rw [hyy, e3] at hsq
      have h7 := Rat.le_trans (Rat.le_trans hfs h3) hmq
      have h8 := hsq.1
      rw [Rat.add_mul, Rat.mul_assoc uu, Rat.mul_assoc uu] at key2
      generalize ((k : Rat) + 1) * ((k : Rat) + 1) = M at *
      generalize ((k : Rat) + 1 / 2) * ((k : Rat) + 1 / 2) = M2 at *
      generalize G * G = GG at *
      exact sq_end h8 h7 key2
  · exact hge
end Lev

/- Plain: rotations: the laws GivensUnit, GivensPivot. -/
set_option linter.unusedVariables false
namespace Lev
open Ieee

theorem rg_zero_of_fv {x : Nat} (h : fv x = 0) : rg x = 0 := by
  rcases Nat.eq_zero_or_pos (rg x) with h1 | h1
  · exact h1
  · exfalso
    have h2 : ab (fv x) = 0 := by rw [h, ab_zero]
    rw [ab_fv] at h2
    have h3 : 0 < (rm (rg x) : Rat) * pw (-1074) := Rat.mul_pos (Rat.natCast_pos.2 (rm_pos h1)) (pw_pos _)
    grind
/-- Scaled to a middling size, a float is just that, or it was tiny. -/
theorem scaled_dich {x : Nat} {K : Int} (hf : fin x) (hK : rg x ≠ 0 → topS x ≤ K + 23) :
    (fv (ldS x (-K)) = fv x * pw (-K)) ∨ (ab (fv x) ≤ pw (K - 1021) ∧ ab (fv (ldS x (-K))) ≤ pw (-1021)) := by
  by_cases h0 : rg x = 0
  · left
    rw [fv_of_rg0 h0, Rat.zero_mul]
    have h1 := rr_spec (mul_pw_nonneg x (-K))
    unfold ldS
    have h2 : ab (fv x) * pw (-K) = 0 := by rw [fv_of_rg0 h0, ab_zero, Rat.zero_mul]
    rw [h2] at h1 ⊢
    rw [h1.zero_eq, fv_word (by decide), rm_zero]
    cases sg x <;> simp [sv]
  · have h1 := hK h0
    rcases Int.lt_or_le (topS x + -K) (-1022) with h2 | h2
    · right
      have h3 := val_lt h0
      have h4 : pw (topS x + 1) ≤ pw (K - 1021) := pw_le (by omega)
      have h5 : ab (fv x) ≤ pw (K - 1021) := by grind
      refine ⟨h5, (ldS_bd (B := pw (-1021)) ?_ (rep_pw1 (by decide) (by decide))).2.1⟩
      have h6 := Rat.mul_le_mul_of_nonneg_right h5 (Rat.le_of_lt (pw_pos (-K)))
      rw [← pw_add, show K - 1021 + -K = -1021 from by omega] at h6
      exact h6
    · left
      exact (ldS_exact h0 h2 (by omega)).2
structure RotB (A B S H : Nat) : Prop where
  fA : fin A
  fB : fin B
  fH : fin H
  H64 : H < 18446744073709551616
  sH : sg H = false
  Hge : pw (-74) ≤ fv H
  A1 : ab (fv A) ≤ fv H
  B1 : ab (fv B) ≤ fv H
  near : ab (fv A * fv A + fv B * fv B - fv H * fv H) ≤ (4 * uu + uu / 1000) * (fv H * fv H)
theorem rot_near {N S H2 : Rat} (hN : 0 ≤ N) (hH : 0 ≤ H2) (h1 : ab (S - N) ≤ (2 * uu + 4 * (uu * uu)) * N) (h2 : H2 * ((1 - uu) * (1 - uu)) ≤ S) (h3 : S ≤ H2 * ((1 + uu) * (1 + uu))) : ab (N - H2) ≤ (4 * uu + uu / 1000) * H2 := by
  rw [ab_le_iff] at *
  unfold uu at *
  constructor <;> grind
theorem rot_sum {a b A2 B2 s η N : Rat} (hA : ab (a - A2) ≤ uu * A2 + η) (hB : ab (b - B2) ≤ uu * B2 + η) (hs : ab (s - (a + b)) ≤ uu * ab (a + b)) (hN : N = A2 + B2) (hA0 : 0 ≤ A2) (hB0 : 0 ≤ B2) (hη0 : 0 ≤ η) (hη : 4 * η ≤ uu * uu * N) : ab (s - N) ≤ (2 * uu + 4 * (uu * uu)) * N := by
  have h1 := ab_le_iff.1 hA
  have h2 := ab_le_iff.1 hB
  have h3 : ab (a + b) ≤ N + uu * N + 2 * η := by rw [ab_le_iff]; unfold uu at *; constructor <;> grind
  have h4 : ab (s - (a + b)) ≤ uu * (N + uu * N + 2 * η) := Rat.le_trans hs (Rat.mul_le_mul_of_nonneg_left h3 (by unfold uu; decide +kernel))
  have h5 := ab_le_iff.1 h4
  rw [ab_le_iff]
  unfold uu at *
  constructor <;> grind
theorem small_sq {x : Rat} (h : x * x < pw (-1022)) : ab x ≤ pw (-511) := by
  rcases (by grind : ab x ≤ pw (-511) ∨ pw (-511) < ab x) with h1 | h1
  · exact h1
  · exfalso
    have h2 := sq_lt (Rat.le_of_lt (pw_pos _)) h1
    rw [← ab_mul, ab_of (sq_nonneg x), ← pw_add] at h2
    have h3 : pw (-511 + -511) = pw (-1022) := rfl
    grind
theorem rotB_of {A B : Nat} (hA : fin A) (hB : fin B) (bA : ab (fv A) ≤ pw 24) (bB : ab (fv B) ≤ pw 24) (hbig : pw (-74) ≤ ab (fv A) ∨ pw (-74) ≤ ab (fv B)) :
    RotB A B (fadd (fmul A A) (fmul B B)) (sqrtF (fadd (fmul A A) (fmul B B))) := by
  have p48 : pw 24 * pw 24 = pw 48 := by rw [← pw_add]; rfl
  have r48 : rep (pw 48) := rep_pw1 (by decide) (by decide)
  have QA := mul_bd (B := pw 48) hA hA (by rw [← p48]; exact Rat.le_trans (Rat.mul_le_mul_of_nonneg_left bA (ab_nonneg _)) (Rat.mul_le_mul_of_nonneg_right bA (Rat.le_of_lt (pw_pos _)))) r48
  have QB := mul_bd (B := pw 48) hB hB (by rw [← p48]; exact Rat.le_trans (Rat.mul_le_mul_of_nonneg_left bB (ab_nonneg _)) (Rat.mul_le_mul_of_nonneg_right bB (Rat.le_of_lt (pw_pos _)))) r48
  have sA := sq_sg hA
  have sB := sq_sg hB
  have S := add_bd (B := pw 49) QA.2.1 QB.2.1 (by have h := pw_double 48; rw [show (48 : Int) + 1 = 49 from rfl] at h; have h1 := QA.2.2.1; have h2 := QB.2.2.1; grind) (rep_pw1 (by decide) (by decide))
  have sS := fadd_sg QA.2.1 QB.2.1 sA sB
  have hge := fadd_ge QA.2.1 QB.2.1 sA sB
  obtain ⟨_, fH, H64, sH⟩ := sqrt_ok S.2.1 sS
  have h24 : pw 24 ≤ pw 30 := pw_le (by decide)
  have gA := fun h => sqrt_ge hA (Rat.le_trans bA h24) h QA.2.1 S.2.1 sS hge.1
  have gB := fun h => sqrt_ge hB (Rat.le_trans bB h24) h QB.2.1 S.2.1 sS hge.2
  have hsqb : ∀ x : Rat, pw (-74) ≤ ab x → pw (-148) ≤ x * x := fun x h => by
    have h1 := sq_le (Rat.le_of_lt (pw_pos _)) h
    rw [← ab_mul, ab_of (sq_nonneg x), ← pw_add] at h1
    exact h1
  have h148 : pw (-1022) ≤ pw (-148) := pw_le (by decide)
  have hHge : pw (-74) ≤ fv (sqrtF (fadd (fmul A A) (fmul B B))) := by
    rcases hbig with h | h
    · exact Rat.le_trans h (gA (Rat.le_trans h148 (hsqb _ h)))
    · exact Rat.le_trans h (gB (Rat.le_trans h148 (hsqb _ h)))
  have h511 : pw (-511) ≤ pw (-74) := pw_le (by decide)
  have hH0 := pw_pos (-74)
  have hA1 : ab (fv A) ≤ fv (sqrtF (fadd (fmul A A) (fmul B B))) := by
    rcases (by grind : pw (-1022) ≤ fv A * fv A ∨ fv A * fv A < pw (-1022)) with h | h
    · exact gA h
    · have := small_sq h; grind
  have hB1 : ab (fv B) ≤ fv (sqrtF (fadd (fmul A A) (fmul B B))) := by
    rcases (by grind : pw (-1022) ≤ fv B * fv B ∨ fv B * fv B < pw (-1022)) with h | h
    · exact gB h
    · have := small_sq h; grind
  refine ⟨hA, hB, fH, H64, sH, hHge, hA1, hB1, ?_⟩
  have nA := sq_nonneg (fv A)
  have nB := sq_nonneg (fv B)
  have eA := fmul_err' hA hA QA.2.1
  have eB := fmul_err' hB hB QB.2.1
  rw [ab_of nA] at eA
  rw [ab_of nB] at eB
  have eS := fadd_err' QA.2.1 QB.2.1 S.2.1
  have hN : pw (-148) ≤ fv A * fv A + fv B * fv B := by
    rcases hbig with h | h
    · have := hsqb _ h; grind
    · have := hsqb _ h; grind
  have hη : 4 * ηη ≤ uu * uu * (fv A * fv A + fv B * fv B) := by
    have h1 : 4 * pw (-1075) ≤ uu * uu * pw (-148) := by
      rw [← uu_eq, ← pw_add, ← pw_add, show (4 : Rat) = pw 2 from by decide +kernel, ← pw_add]
      exact pw_le (by decide)
    have h2 := Rat.mul_le_mul_of_nonneg_left hN (show 0 ≤ uu * uu by unfold uu; decide +kernel)
    exact Rat.le_trans h1 h2
  have hsum := rot_sum eA eB eS rfl nA nB (Rat.le_of_lt ηη_pos) hη
  have hS0 : rg (fadd (fmul A A) (fmul B B)) ≠ 0 := fun h => by
    have h1 := fv_of_rg0 h
    have h2 := ab_le_iff.1 hsum
    have h3 := pw_pos (-148)
    unfold uu at h2
    grind
  obtain ⟨q0, q1, q2⟩ := sqrt_err S.2.1 sS hS0
  exact rot_near (by grind) (sq_nonneg _) hsum q1 q2
end Lev

/- Plain: c and s of a rotation; the laws GivensUnit, GivensPivot. -/
set_option linter.unusedVariables false
namespace Lev
open Ieee

structure UnitCS (c s : Nat) : Prop where
  fc : fin c
  fs : fin s
  c1 : ab (fv c) ≤ 1
  s1 : ab (fv s) ≤ 1
  one : ab (fv c * fv c + fv s * fv s - 1) ≤ 49 / 8 * uu
theorem quot_one {a b : Nat} (ha : fin a) (hb : fin b) (h0 : rg b ≠ 0) (h : ab (fv a) ≤ ab (fv b)) : fin (fdiv a b) ∧ ab (fv (fdiv a b)) ≤ 1 ∧ fdiv a b < 18446744073709551616 := by
  have hI := INF_eq
  obtain ⟨r, h1, h2⟩ := div_spec ha hb h0
  have e : fdiv a b = D.word (sg a ^^ sg b) r := by unfold fdiv; rw [h1]; rfl
  have hb0 : 0 < ab (fv b) := by
    rw [ab_fv]; exact Rat.mul_pos (Rat.natCast_pos.2 (rm_pos (by omega))) (pw_pos _)
  have hle : ab (fv a) / ab (fv b) ≤ pw 0 := by
    rw [pw_zero, Rat.div_def]
    have h3 := Rat.mul_le_mul_of_nonneg_right h (Rat.le_of_lt (Rat.inv_pos.2 hb0))
    rwa [Rat.mul_inv_cancel _ (by grind)] at h3
  obtain ⟨k1, k2⟩ := rnd_le h2 hle (rep_pw1 (by decide) (by decide))
  rw [pw_zero] at k2
  rw [e]
  exact ⟨fin_word k1, by rw [ab_word k1]; exact k2, word_lt64 _ _ (by omega)⟩
theorem ηη_small : ηη ≤ uu * uu := by
  unfold ηη
  rw [← uu_eq, ← pw_add]
  exact pw_le (by decide)
theorem sq_near' {c α a d p u η : Rat} (hu : u = uu) (ha0 : 0 ≤ a) (ha : a ≤ 1) (hη0 : 0 ≤ η) (hη : η ≤ u * u) (hd : d ≤ u * a + η) (hp : p ≤ 2 * a + u * a + η) (hd0 : 0 ≤ d) (hp0 : 0 ≤ p) : d * p ≤ 2 * u * (a * a) + 4 * (u * u) := by
  have hu0 : 0 ≤ u := by rw [hu]; unfold uu; decide +kernel
  have h1 : d * p ≤ (u * a + η) * p := Rat.mul_le_mul_of_nonneg_right hd hp0
  have h2 : (u * a + η) * p ≤ (u * a + η) * (2 * a + u * a + η) := Rat.mul_le_mul_of_nonneg_left hp (by have := Rat.mul_nonneg hu0 ha0; grind)
  have h3 : a * a ≤ 1 * 1 := by have := Rat.mul_le_mul_of_nonneg_left ha ha0; grind
  have h4 : a * η ≤ 1 * η := Rat.mul_le_mul_of_nonneg_right ha hη0
  have h5 : u * (a * η) ≤ u * (1 * η) := Rat.mul_le_mul_of_nonneg_left h4 hu0
  have h6 : u * u * (a * a) ≤ u * u * (1 * 1) := Rat.mul_le_mul_of_nonneg_left h3 (Rat.mul_nonneg hu0 hu0)
  have h7 : η * η ≤ η * (u * u) := Rat.mul_le_mul_of_nonneg_left hη hη0
  have e : (u * a + η) * (2 * a + u * a + η) = 2 * u * (a * a) + u * u * (a * a) + 2 * (u * (a * η)) + 2 * (a * η) + η * η := by grind
  rw [e] at h2
  have h8 : η * (u * u) ≤ η * 1 := Rat.mul_le_mul_of_nonneg_left (by rw [hu]; unfold uu; decide +kernel) hη0
  have h9 : u * (1 * η) ≤ 1 * (1 * η) := Rat.mul_le_mul_of_nonneg_right (by rw [hu]; unfold uu; decide +kernel) (by grind)
  have h10 : 2 * u * η ≤ (1 / 100) * (u * u) := by
    have : 2 * u * η ≤ 2 * u * (u * u) := Rat.mul_le_mul_of_nonneg_left hη (by grind)
    have h11 : 2 * u * (u * u) ≤ (1 / 100) * (u * u) := Rat.mul_le_mul_of_nonneg_right (by rw [hu]; unfold uu; decide +kernel) (Rat.mul_nonneg hu0 hu0)
    grind
  have h12 : η * (u * u) ≤ (1 / 100) * (u * u) := Rat.mul_le_mul_of_nonneg_right (Rat.le_trans hη (by rw [hu]; unfold uu; decide +kernel)) (Rat.mul_nonneg hu0 hu0)
  grind
theorem sq_near {c α : Rat} (hα : ab α ≤ 1) (h : ab (c - α) ≤ uu * ab α + ηη) : ab (c * c - α * α) ≤ 2 * uu * (α * α) + 4 * (uu * uu) := by
  have e : c * c - α * α = (c - α) * (c + α) := by grind
  rw [e, ab_mul]
  have h1 : ab (c + α) ≤ 2 * ab α + uu * ab α + ηη := by
    have h2 := ab_add (c - α) (2 * α)
    rw [show c - α + 2 * α = c + α from by grind, ab_mul, show ab (2 : Rat) = 2 from by decide +kernel] at h2
    grind
  have := sq_near' (c := c) (α := α) rfl (ab_nonneg α) hα (Rat.le_of_lt ηη_pos) ηη_small h h1 (ab_nonneg _) (ab_nonneg _)
  have e2 : ab α * ab α = α * α := by rw [← ab_mul, ab_of (sq_nonneg α)]
  rwa [e2] at this
theorem div_le_h {x h k : Rat} (hh : 0 < h) (hx : ab (x * h) ≤ k * h) : ab x ≤ k := by
  rw [ab_mul, ab_of (Rat.le_of_lt hh)] at hx
  exact Rat.le_of_mul_le_mul_right hx hh
theorem unit_fin {A2 B2 c2 s2 : Rat} (hA : 0 ≤ A2) (hB : 0 ≤ B2) (h1 : ab (A2 + B2 - 1) ≤ 4 * uu + uu / 1000) (h2 : ab (c2 - A2) ≤ 2 * uu * A2 + 4 * (uu * uu)) (h3 : ab (s2 - B2) ≤ 2 * uu * B2 + 4 * (uu * uu)) : ab (c2 + s2 - 1) ≤ 49 / 8 * uu := by
  rw [ab_le_iff] at *
  unfold uu at *
  constructor <;> grind
/-- c and s, and the quotients without an error. -/
structure RotC (A B H c s : Nat) (α β : Rat) : Prop where
  u : UnitCS c s
  c64 : c < 18446744073709551616
  s64 : s < 18446744073709551616
  hα : α * fv H = fv A
  hβ : β * fv H = fv B
  α1 : ab α ≤ 1
  β1 : ab β ≤ 1
  one : ab (α * α + β * β - 1) ≤ 4 * uu + uu / 1000
  cα : ab (fv c - α) ≤ uu * ab α + ηη
  sβ : ab (fv s - β) ≤ uu * ab β + ηη
theorem rotC_of {A B S H : Nat} (h : RotB A B S H) : ∃ α β, RotC A B H (fdiv A H) (fdiv B H) α β := by
  have h74 := pw_pos (-74)
  have hHge := h.Hge
  have hH0 : 0 < fv H := by grind
  have hHr : rg H ≠ 0 := fun e => by rw [fv_of_rg0 e] at hH0; grind
  have hHa : ab (fv H) = fv H := ab_of (Rat.le_of_lt hH0)
  have q := Rat.mul_inv_cancel (fv H) (by grind)
  have hα : fv A * (fv H)⁻¹ * fv H = fv A := by grind
  have hβ : fv B * (fv H)⁻¹ * fv H = fv B := by grind
  generalize fv A * (fv H)⁻¹ = α at *
  generalize fv B * (fv H)⁻¹ = β at *
  obtain ⟨c1, c2, c3⟩ := quot_one h.fA h.fH hHr (by rw [hHa]; exact h.A1)
  obtain ⟨s1, s2, s3⟩ := quot_one h.fB h.fH hHr (by rw [hHa]; exact h.B1)
  have ec := fdiv_err h.fA h.fH hHr c1 hα
  have es := fdiv_err h.fB h.fH hHr s1 hβ
  have hα1 : ab α ≤ 1 := div_le_h hH0 (by rw [hα, Rat.one_mul]; exact h.A1)
  have hβ1 : ab β ≤ 1 := div_le_h hH0 (by rw [hβ, Rat.one_mul]; exact h.B1)
  have hHH : 0 < fv H * fv H := Rat.mul_pos hH0 hH0
  have hone : ab (α * α + β * β - 1) ≤ 4 * uu + uu / 1000 := by
    refine div_le_h hHH ?_
    have e : (α * α + β * β - 1) * (fv H * fv H) = fv A * fv A + fv B * fv B - fv H * fv H := by rw [← hα, ← hβ]; grind
    rw [e]; exact h.near
  exact ⟨α, β, ⟨c1, s1, c2, s2, unit_fin (sq_nonneg α) (sq_nonneg β) hone (sq_near hα1 ec) (sq_near hβ1 es)⟩, c3, s3, hα, hβ, hα1, hβ1, hone, ec, es⟩
theorem unit_trivial : UnitCS oneF 0 := ⟨fin_one, fin_zero, by rw [fvOne]; decide +kernel, by rw [fv_zero]; decide +kernel, by rw [fvOne, fv_zero]; unfold uu; decide +kernel⟩

/-- A product that is not far from another one. -/
theorem prod_near {c α f a ρ τ : Rat} (hα : ab α ≤ 1) (hc1 : ab c ≤ 1) (hc : ab (c - α) ≤ uu * ab α + ηη) (ha : ab a ≤ 1) (hf : ab (f - a * ρ) ≤ τ * ρ) (hρ : 0 ≤ ρ) :
    ab (c * f - α * a * ρ) ≤ (uu * (ab α * ab a) + ηη + τ) * ρ := by
  have e : c * f - α * a * ρ = c * (f - a * ρ) + (c - α) * a * ρ := by grind
  rw [e]
  have h1 := ab_add (c * (f - a * ρ)) ((c - α) * a * ρ)
  rw [ab_mul, ab_mul, ab_mul, ab_of hρ] at h1
  have h2 : ab c * ab (f - a * ρ) ≤ 1 * ab (f - a * ρ) := Rat.mul_le_mul_of_nonneg_right hc1 (ab_nonneg _)
  have h3 : ab (c - α) * ab a ≤ (uu * ab α + ηη) * ab a := Rat.mul_le_mul_of_nonneg_right hc (ab_nonneg _)
  have h4 : ηη * ab a ≤ ηη * 1 := Rat.mul_le_mul_of_nonneg_left ha (Rat.le_of_lt ηη_pos)
  have h5 : ab (c - α) * ab a * ρ ≤ (uu * (ab α * ab a) + ηη) * ρ := Rat.mul_le_mul_of_nonneg_right (by grind) hρ
  grind
theorem pivot_fin {ρ r X Y A2 B2 η τ : Rat} (hρ : 0 ≤ ρ) (hη0 : 0 ≤ η) (hηu : η ≤ uu * uu) (hτ0 : 0 ≤ τ) (hτ : τ ≤ uu * uu) (hA : 0 ≤ A2) (hB : 0 ≤ B2) (h1 : ab (A2 + B2 - 1) ≤ 4 * uu + uu / 1000)
    (hX : ab (X - A2 * ρ) ≤ (uu * A2 + η + τ) * ρ) (hY : ab (Y - B2 * ρ) ≤ (uu * B2 + η + τ) * ρ) (hr : ab (r - ρ) ≤ uu * ρ + η) : ab (X + Y - r) ≤ r * 8 * uu + 4 * η := by
  have k1 : ab ((A2 + B2 - 1) * ρ) ≤ (4 * uu + uu / 1000) * ρ := by rw [ab_mul, ab_of hρ]; exact Rat.mul_le_mul_of_nonneg_right h1 hρ
  have k2 : (A2 + B2) * ρ ≤ (1 + (4 * uu + uu / 1000)) * ρ := Rat.mul_le_mul_of_nonneg_right (by have := ab_le_iff.1 h1; grind) hρ
  have k3 := Rat.mul_le_mul_of_nonneg_right hηu hρ
  have k4 := Rat.mul_le_mul_of_nonneg_right hτ hρ
  rw [ab_le_iff] at *
  unfold uu at *
  constructor <;> grind
theorem cross_fin {ρ r X Y P A2 B2 η τ : Rat} (hρ : 0 ≤ ρ) (hη0 : 0 ≤ η) (hηu : η ≤ uu * uu) (hτ0 : 0 ≤ τ) (hτ : τ ≤ uu * uu) (hA : 0 ≤ A2) (hB : 0 ≤ B2) (h1 : ab (A2 + B2 - 1) ≤ 4 * uu + uu / 1000) {m : Rat} (hm0 : 0 ≤ m) (hm : 2 * m ≤ A2 + B2)
    (hX : ab (X - P) ≤ (uu * m + η + τ) * ρ) (hY : ab (Y - P) ≤ (uu * m + η + τ) * ρ) (hr : ab (r - ρ) ≤ uu * ρ + η) : ab (X - Y) ≤ r * 8 * uu + 4 * η := by
  have k2 : 2 * m * ρ ≤ (1 + (4 * uu + uu / 1000)) * ρ := Rat.mul_le_mul_of_nonneg_right (by have := ab_le_iff.1 h1; grind) hρ
  have k3 := Rat.mul_le_mul_of_nonneg_right hηu hρ
  have k4 := Rat.mul_le_mul_of_nonneg_right hτ hρ
  rw [ab_le_iff] at *
  unfold uu at *
  constructor <;> grind
theorem am_gm (a b : Rat) : 2 * (ab a * ab b) ≤ a * a + b * b := by
  have h := sq_nonneg (ab a - ab b)
  have e1 : ab a * ab a = a * a := by rw [← ab_mul, ab_of (sq_nonneg a)]
  have e2 : ab b * ab b = b * b := by rw [← ab_mul, ab_of (sq_nonneg b)]
  grind
end Lev

/- Plain: the laws GivensUnit, GivensPivot, joined. -/
set_option linter.unusedVariables false
namespace Lev
open Ieee

structure RotLaw (f g c s r : Nat) : Prop where
  u : UnitCS c s
  c64 : c < 18446744073709551616
  s64 : s < 18446744073709551616
  r64 : r < 18446744073709551616
  fr : fin r
  sr : sg r = false
  rf : rg f ≤ rg r
  rg' : rg g ≤ rg r
  piv : ab (fv c * fv f + fv s * fv g - fv r) ≤ fv r * 8 * uu + pw (-1070)
  cross : ab (fv c * fv g - fv s * fv f) ≤ fv r * 8 * uu + pw (-1070)
theorem η4 : 4 * ηη ≤ pw (-1070) := by
  unfold ηη
  rw [show (4 : Rat) = pw 2 from by decide +kernel, ← pw_add]
  exact pw_le (by decide)
theorem rot_big {f g : Nat} (hf : fin f) (hg : fin g) (h0 : ¬ (rg f = 0 ∧ rg g = 0)) :
    (rg f ≠ 0 → topS f ≤ rotK f g + 23) ∧ (rg g ≠ 0 → topS g ≤ rotK f g + 23) ∧ (pw (-74) ≤ ab (fv (rotA f g)) ∨ pw (-74) ≤ ab (fv (rotB f g))) := by
  refine ⟨fun h => ?_, fun h => ?_, ?_⟩
  · have h1 := topB_top hf h; have h2 := topS_hi hf; unfold rotK; omega
  · have h1 := topB_top hg h; have h2 := topS_hi hg; unfold rotK; omega
  · by_cases hc : topB f ≤ topB g ∧ rg g ≠ 0
    · right
      have h1 := topB_top hg hc.2
      have h2 := topS_lo g
      exact scaled_ge hc.2 (by unfold rotK; omega)
    · left
      have h3 : rg f ≠ 0 := fun h => by
        by_cases h4 : rg g = 0
        · exact h0 ⟨h, h4⟩
        · have h5 := topB_top hg h4
          have h6 := topS_lo g
          have h7 : topB f = -2000 := topB_no (by rw [kindS_zero h]; decide)
          exact hc ⟨by omega, h4⟩
      have h1 := topB_top hf h3
      have h2 := topS_lo f
      have h8 : topB g ≤ topB f := by
        by_cases h4 : rg g = 0
        · have h7 : topB g = -2000 := topB_no (by rw [kindS_zero h4]; decide)
          omega
        · rcases Int.lt_or_le (topB f) (topB g) with h | h
          · exact absurd ⟨Int.le_of_lt h, h4⟩ hc
          · exact h
      exact scaled_ge h3 (by unfold rotK; omega)
theorem dich_le {x X H K ρ : Rat} {k : Int} (hd : (X = x * pw (-k)) ∨ (ab x ≤ pw (k - 1021) ∧ ab X ≤ pw (-1021))) (hX : ab X ≤ H) (hH : pw (-74) ≤ H) : ab x ≤ H * pw k ∧ ab (x - X * pw k) ≤ pw (-900) * (H * pw k) := by
  have hk := pw_pos k
  have hkk := pw_neg k
  rcases hd with h | ⟨h, h'⟩
  · have e : X * pw k = x := by rw [h, Rat.mul_assoc, hkk, Rat.mul_one]
    refine ⟨?_, ?_⟩
    · rw [← e, ab_mul, ab_pw]; exact Rat.mul_le_mul_of_nonneg_right hX (Rat.le_of_lt hk)
    · rw [e, show x - x = 0 from by grind, ab_zero]
      have h0 := pw_pos (-74)
      exact Rat.mul_nonneg (Rat.le_of_lt (pw_pos _)) (Rat.mul_nonneg (by grind) (Rat.le_of_lt hk))
  · have h1 := Rat.mul_le_mul_of_nonneg_right hH (Rat.le_of_lt hk)
    rw [← pw_add] at h1
    have h2 : pw (k - 1021) ≤ pw (-74 + k) := pw_le (by omega)
    refine ⟨by grind, ?_⟩
    have h3 := ab_add x (-(X * pw k))
    rw [ab_neg, ab_mul, ab_pw, show x + -(X * pw k) = x - X * pw k from by grind] at h3
    have h4 := Rat.mul_le_mul_of_nonneg_right h' (Rat.le_of_lt hk)
    rw [← pw_add, show -1021 + k = k - 1021 from by omega] at h4
    have h5 := Rat.mul_le_mul_of_nonneg_left h1 (Rat.le_of_lt (pw_pos (-900)))
    rw [← pw_add] at h5
    have h6 : pw (k - 1021) * 2 ≤ pw (-900 + (-74 + k)) := by
      rw [show (2 : Rat) = pw 1 from by decide +kernel, ← pw_add]; exact pw_le (by omega)
    grind
theorem rot_law {f g : Nat} (hf : fin f) (hg : fin g) (h0 : ¬ (rg f = 0 ∧ rg g = 0)) (hr : rg (rotR f g) < INF) : RotLaw f g (fdiv (rotA f g) (rotH f g)) (fdiv (rotB f g) (rotH f g)) (rotR f g) := by
  obtain ⟨tf, tg, big⟩ := rot_big hf hg h0
  obtain ⟨A1, A2, A3⟩ := scaled_bd tf
  obtain ⟨B1, B2, B3⟩ := scaled_bd tg
  have dA := scaled_dich hf tf
  have dB := scaled_dich hg tg
  have RB := rotB_of (A := rotA f g) (B := rotB f g) A1 B1 A2 B2 big
  have RB : RotB (rotA f g) (rotB f g) (rotS f g) (rotH f g) := RB
  obtain ⟨α, β, RC⟩ := rotC_of RB
  have dA : (fv (rotA f g) = fv f * pw (-rotK f g)) ∨ (ab (fv f) ≤ pw (rotK f g - 1021) ∧ ab (fv (rotA f g)) ≤ pw (-1021)) := dA
  have dB : (fv (rotB f g) = fv g * pw (-rotK f g)) ∨ (ab (fv g) ≤ pw (rotK f g - 1021) ∧ ab (fv (rotB f g)) ≤ pw (-1021)) := dB
  obtain ⟨f1, f2⟩ := dich_le (K := 0) (ρ := 0) dA RB.A1 RB.Hge
  obtain ⟨g1, g2⟩ := dich_le (K := 0) (ρ := 0) dB RB.B1 RB.Hge
  have h74 := pw_pos (-74)
  have hHge := RB.Hge
  have hH0 : 0 ≤ fv (rotH f g) := by grind
  have hHa : ab (fv (rotH f g)) = fv (rotH f g) := ab_of hH0
  have hrr := rr_spec (mul_pw_nonneg (rotH f g) (rotK f g))
  have hre : rotR f g = D.word false (rr (ab (fv (rotH f g)) * pw (rotK f g))) := by unfold rotR ldS; rw [RB.sH]
  rw [hHa] at hrr hre
  have hrg : rg (rotR f g) = rr (fv (rotH f g) * pw (rotK f g)) := by rw [hre, rg_word _ _ hrr.lt63]
  have hrI : rr (fv (rotH f g) * pw (rotK f g)) < INF := by rw [← hrg]; exact hr
  have hρ : 0 ≤ fv (rotH f g) * pw (rotK f g) := Rat.mul_nonneg hH0 (Rat.le_of_lt (pw_pos _))
  have hrv : fv (rotR f g) = (rm (rr (fv (rotH f g) * pw (rotK f g))) : Rat) * pw (-1074) := by rw [hre, fv_word hrI]; rfl
  have herr := rnd_err_any hrr hrI hρ
  rw [← hrv, uu_eq] at herr
  have hle : ∀ x, fin x → ab (fv x) ≤ fv (rotH f g) * pw (rotK f g) → rg x ≤ rg (rotR f g) := fun x hx h => by
    rw [hrg]
    rw [ab_fv] at h
    exact (IsRnd.exact hx).mono hrr h
  have hτ : pw (-900) ≤ uu * uu := by rw [← uu_eq, ← pw_add]; exact pw_le (by decide)
  have hτ0 := Rat.le_of_lt (pw_pos (-900))
  have hη0 := Rat.le_of_lt ηη_pos
  have eA : fv (rotA f g) * pw (rotK f g) = α * (fv (rotH f g) * pw (rotK f g)) := by rw [← RC.hα, Rat.mul_assoc]
  have eB : fv (rotB f g) * pw (rotK f g) = β * (fv (rotH f g) * pw (rotK f g)) := by rw [← RC.hβ, Rat.mul_assoc]
  rw [eA] at f2
  rw [eB] at g2
  have X := prod_near RC.α1 RC.u.c1 RC.cα RC.α1 f2 hρ
  have Y := prod_near RC.β1 RC.u.s1 RC.sβ RC.β1 g2 hρ
  have X2 := prod_near RC.α1 RC.u.c1 RC.cα RC.β1 g2 hρ
  have Y2 := prod_near RC.β1 RC.u.s1 RC.sβ RC.α1 f2 hρ
  have sα : ab α * ab α = α * α := by rw [← ab_mul, ab_of (sq_nonneg α)]
  have sβ : ab β * ab β = β * β := by rw [← ab_mul, ab_of (sq_nonneg β)]
  rw [sα] at X
  rw [sβ] at Y
  rw [show β * α = α * β from Rat.mul_comm _ _, show ab β * ab α = ab α * ab β from Rat.mul_comm _ _] at Y2
  have p1 := pivot_fin hρ hη0 ηη_small hτ0 hτ (sq_nonneg α) (sq_nonneg β) RC.one X Y herr
  have p2 := cross_fin hρ hη0 ηη_small hτ0 hτ (sq_nonneg α) (sq_nonneg β) RC.one (Rat.mul_nonneg (ab_nonneg α) (ab_nonneg β)) (am_gm α β) X2 Y2 herr
  have h4 := η4
  exact ⟨RC.u, RC.c64, RC.s64, by rw [hre]; exact word_lt64 _ _ hrr.lt63, hr, by rw [hre]; exact sg_word _ _ hrr.lt63, hle f hf f1, hle g hg g1, by grind, by grind⟩
theorem rot_law0 {f g : Nat} (hf : rg f = 0) (hg : rg g = 0) : RotLaw f g oneF 0 0 := by
  have h1070 := pw_pos (-1070)
  refine ⟨unit_trivial, by decide, by decide, by decide, fin_zero, by decide, by rw [hf]; exact Nat.zero_le _, by rw [hg]; exact Nat.zero_le _, ?_, ?_⟩
  · rw [fv_of_rg0 hf, fv_of_rg0 hg, fv_zero, fvOne, show (1 : Rat) * 0 + 0 * 0 - 0 = 0 from by grind, ab_zero]; grind
  · rw [fv_of_rg0 hf, fv_of_rg0 hg, fv_zero, fvOne, show (1 : Rat) * 0 - 0 * 0 = 0 from by grind, ab_zero]; grind
end Lev

/- Plain: what a rotation turns; the laws GivensKeeps, GivensBack. -/
set_option linter.unusedVariables false
namespace Lev
open Ieee

/-- Products whose one factor is 0 lose nothing; others lose at most ηη. -/
theorem fmul_errz {a z : Nat} {η : Rat} (ha : fin a) (hz : fin z) (hf : fin (fmul a z)) (hη : η = ηη ∨ (η = 0 ∧ fv z = 0)) : ab (fv (fmul a z) - fv a * fv z) ≤ uu * ab (fv a * fv z) + η := by
  rcases hη with h | ⟨h, h0⟩
  · rw [h]; exact fmul_err' ha hz hf
  · have := fmul_err_big ha hz hf (.inl (by rw [h0]; grind))
    rw [uu_eq] at this
    rw [h]; grind
theorem two_err {p q P Q v η : Rat} (h1 : ab (p - P) ≤ uu * ab P + η) (h2 : ab (q - Q) ≤ uu * ab Q + η) (h3 : ab (v - (p + q)) ≤ uu * ab (p + q)) (hη : 0 ≤ η) : ab (v - (P + Q)) ≤ (2 * uu + 2 * (uu * uu)) * (ab P + ab Q) + 3 * η := by
  have a1 := ab_add (p - P) P
  have a2 := ab_add (q - Q) Q
  have a3 := ab_add p q
  rw [show p - P + P = p from by grind] at a1
  rw [show q - Q + Q = q from by grind] at a2
  have a4 : ab (p + q) ≤ (1 + uu) * (ab P + ab Q) + 2 * η := by grind
  have a5 : uu * ab (p + q) ≤ uu * ((1 + uu) * (ab P + ab Q) + 2 * η) := Rat.mul_le_mul_of_nonneg_left a4 (by unfold uu; decide +kernel)
  have a6 := ab_add (v - (p + q)) ((p - P) + (q - Q))
  have a7 := ab_add (p - P) (q - Q)
  rw [show v - (p + q) + ((p - P) + (q - Q)) = v - (P + Q) from by grind] at a6
  have b1 := ab_nonneg P
  have b2 := ab_nonneg Q
  unfold uu at *
  grind
structure Turned (c s x y : Nat) (η : Rat) (v w : Nat) : Prop where
  mcx : D.mul c x = some (fmul c x)
  msy : D.mul s y = some (fmul s y)
  mcy : D.mul c y = some (fmul c y)
  msx : D.mul s x = some (fmul s x)
  av : D.add (fmul c x) (fmul s y) = some v
  sw : D.sub (fmul c y) (fmul s x) = some w
  fv' : fin v
  fw : fin w
  v64 : v < 18446744073709551616
  w64 : w < 18446744073709551616
  ev : ab (fv v - (fv c * fv x + fv s * fv y)) ≤ (2 * uu + 2 * (uu * uu)) * (ab (fv c * fv x) + ab (fv s * fv y)) + 3 * η
  ew : ab (fv w - (fv c * fv y - fv s * fv x)) ≤ (2 * uu + 2 * (uu * uu)) * (ab (fv c * fv y) + ab (fv s * fv x)) + 3 * η
theorem turned {c s x y : Nat} {η : Rat} (fc : fin c) (fs : fin s) (c1 : ab (fv c) ≤ 1) (s1 : ab (fv s) ≤ 1) (fx : fin x) (fy : fin y) (bx : ab (fv x) ≤ pw 600) (bY : ab (fv y) ≤ pw 600) (hη : η = ηη ∨ (η = 0 ∧ fv x = 0 ∧ fv y = 0)) :
    Turned c s x y η (fadd (fmul c x) (fmul s y)) (fsub (fmul c y) (fmul s x)) := by
  have hη0 : 0 ≤ η := by rcases hη with h | ⟨h, _⟩ <;> rw [h]; (· exact Rat.le_of_lt ηη_pos); (· exact Rat.le_refl)
  have hx : η = ηη ∨ (η = 0 ∧ fv x = 0) := by rcases hη with h | ⟨h, h1, _⟩; (· exact .inl h); (· exact .inr ⟨h, h1⟩)
  have hy : η = ηη ∨ (η = 0 ∧ fv y = 0) := by rcases hη with h | ⟨h, _, h1⟩; (· exact .inl h); (· exact .inr ⟨h, h1⟩)
  have bd : ∀ {a z : Nat}, fin a → ab (fv a) ≤ 1 → fin z → ab (fv z) ≤ pw 600 → D.mul a z = some (fmul a z) ∧ fin (fmul a z) ∧ ab (fv (fmul a z)) ≤ pw 600 ∧ fmul a z < 18446744073709551616 := fun {a z} fa ha fz hz =>
    mul_bd fa fz (by have h1 := Rat.mul_le_mul_of_nonneg_right ha (ab_nonneg (fv z)); grind) (rep_pw1 (by decide) (by decide))
  have b1 := bd fc c1 fx bx
  have b2 := bd fs s1 fy bY
  have b3 := bd fc c1 fy bY
  have b4 := bd fs s1 fx bx
  have p601 : pw 601 = 2 * pw 600 := pw_double 600
  have A := add_bd (B := pw 601) b1.2.1 b2.2.1 (by have := b1.2.2.1; have := b2.2.2.1; grind) (rep_pw1 (by decide) (by decide))
  have S := sub_bd (B := pw 601) b3.2.1 b4.2.1 (by have := b3.2.2.1; have := b4.2.2.1; grind) (rep_pw1 (by decide) (by decide))
  refine ⟨b1.1, b2.1, b3.1, b4.1, A.1, S.1, A.2.1, S.2.1, A.2.2.2, S.2.2.2, ?_, ?_⟩
  · exact two_err (fmul_errz fc fx b1.2.1 hx) (fmul_errz fs fy b2.2.1 hy) (fadd_err' b1.2.1 b2.2.1 A.2.1) hη0
  · have h1 := fmul_errz fc fy b3.2.1 hy
    have h2 := fmul_errz fs fx b4.2.1 hx
    have h3 := fsub_err b3.2.1 b4.2.1 S.2.1
    have := two_err (p := fv (fmul c y)) (q := -fv (fmul s x)) (P := fv c * fv y) (Q := -(fv s * fv x)) (v := fv (fsub (fmul c y) (fmul s x))) h1 (by rw [ab_neg, show -fv (fmul s x) - -(fv s * fv x) = -(fv (fmul s x) - fv s * fv x) from by grind, ab_neg]; exact h2) (by rw [show fv (fmul c y) + -fv (fmul s x) = fv (fmul c y) - fv (fmul s x) from by grind]; exact h3) hη0
    rw [ab_neg, show fv c * fv y + -(fv s * fv x) = fv c * fv y - fv s * fv x from by grind] at this
    exact this
/-- The size of two floats that are In, and what may be lost. -/
theorem in_size {x y : Nat} (hx : inS x = true) (hy : inS y = true) : ∃ η, (η = ηη ∨ (η = 0 ∧ fv x = 0 ∧ fv y = 0)) ∧ 0 ≤ η ∧ η ≤ ηη ∧ η ≤ uu * uu * (ab (fv x) + ab (fv y)) := by
  have h0 := Rat.le_of_lt ηη_pos
  have hp : 0 ≤ uu * uu := by unfold uu; decide +kernel
  have n1 := ab_nonneg (fv x)
  have n2 := ab_nonneg (fv y)
  by_cases h1 : rg x = 0
  · by_cases h2 : rg y = 0
    · refine ⟨0, .inr ⟨rfl, fv_of_rg0 h1, fv_of_rg0 h2⟩, Rat.le_refl, h0, ?_⟩
      rw [fv_of_rg0 h1, fv_of_rg0 h2, ab_zero]; grind
    · refine ⟨ηη, .inl rfl, h0, Rat.le_refl, ?_⟩
      have h3 := inS_ge hy h2
      have h4 := Rat.mul_le_mul_of_nonneg_left (show pw (-400) ≤ ab (fv x) + ab (fv y) by grind) hp
      have h5 : ηη ≤ uu * uu * pw (-400) := by unfold ηη; rw [← uu_eq, ← pw_add, ← pw_add]; exact pw_le (by decide)
      exact Rat.le_trans h5 h4
  · refine ⟨ηη, .inl rfl, h0, Rat.le_refl, ?_⟩
    have h3 := inS_ge hx h1
    have h4 := Rat.mul_le_mul_of_nonneg_left (show pw (-400) ≤ ab (fv x) + ab (fv y) by grind) hp
    have h5 : ηη ≤ uu * uu * pw (-400) := by unfold ηη; rw [← uu_eq, ← pw_add, ← pw_add]; exact pw_le (by decide)
    exact Rat.le_trans h5 h4
theorem sq_diff {v V M e : Rat} (h : ab (v - V) ≤ e) (hV : ab V ≤ M) (he : 0 ≤ e) : ab (v * v - V * V) ≤ e * (2 * M + e) := by
  rw [show v * v - V * V = (v - V) * (v + V) from by grind, ab_mul]
  have h1 := ab_add (v - V) (2 * V)
  rw [ab_mul, show ab (2 : Rat) = 2 from by decide +kernel, show v - V + 2 * V = v + V from by grind] at h1
  have h2 : ab (v - V) * ab (v + V) ≤ e * ab (v + V) := Rat.mul_le_mul_of_nonneg_right h (ab_nonneg _)
  have h3 : e * ab (v + V) ≤ e * (2 * M + e) := Rat.mul_le_mul_of_nonneg_left (by grind) he
  grind
theorem cauchy {c s x y : Rat} : (ab (c * x) + ab (s * y)) * (ab (c * x) + ab (s * y)) ≤ (c * c + s * s) * (x * x + y * y) := by
  have h := sq_nonneg (ab (c * y) - ab (s * x))
  rw [ab_mul, ab_mul] at *
  have e1 : ab c * ab c = c * c := by rw [← ab_mul, ab_of (sq_nonneg c)]
  have e2 : ab s * ab s = s * s := by rw [← ab_mul, ab_of (sq_nonneg s)]
  have e3 : ab x * ab x = x * x := by rw [← ab_mul, ab_of (sq_nonneg x)]
  have e4 : ab y * ab y = y * y := by rw [← ab_mul, ab_of (sq_nonneg y)]
  rw [← e1, ← e2, ← e3, ← e4]
  grind
/-- e (2 M + e), where e is little of M and of T. -/
theorem err_sq {u M T N k η e : Rat} (hu : u = uu) (hk : k = 2 * u + 2 * (u * u)) (hM : 0 ≤ M) (hT : 0 ≤ T) (hMT : M ≤ T) (hMN : M * M ≤ (1 + 7 * u) * N) (hTN : T * T ≤ 2 * N) (hη0 : 0 ≤ η) (hη : η ≤ u * u * T) (he : e = k * M + 3 * η) : e * (2 * M + e) ≤ 5 * u * N := by
  have hu0 : 0 ≤ u := by rw [hu]; unfold uu; decide +kernel
  have hN : 0 ≤ N := by have := Rat.mul_nonneg hT hT; grind
  have hMM := Rat.mul_nonneg hM hM
  have h1 : η * M ≤ u * u * T * M := Rat.mul_le_mul_of_nonneg_right hη hM
  have h2 : T * M ≤ T * T := Rat.mul_le_mul_of_nonneg_left hMT hT
  have huu0 := Rat.mul_nonneg hu0 hu0
  have h3 : u * u * (T * M) ≤ u * u * (2 * N) := Rat.mul_le_mul_of_nonneg_left (Rat.le_trans h2 hTN) huu0
  have h4 : η * η ≤ (u * u * T) * (u * u * T) := by
    have a := Rat.mul_le_mul_of_nonneg_left hη hη0
    have b := Rat.mul_le_mul_of_nonneg_right hη (Rat.mul_nonneg huu0 hT)
    grind
  have h5 : u * u * (u * u) * (T * T) ≤ u * u * (u * u) * (2 * N) := Rat.mul_le_mul_of_nonneg_left hTN (Rat.mul_nonneg huu0 huu0)
  have e1 : e * (2 * M + e) = (2 * k + k * k) * (M * M) + (6 + 6 * k) * (η * M) + 9 * (η * η) := by rw [he]; grind
  have hk0 : 0 ≤ k := by rw [hk]; grind
  have h6 : (2 * k + k * k) * (M * M) ≤ (2 * k + k * k) * ((1 + 7 * u) * N) := Rat.mul_le_mul_of_nonneg_left hMN (by have := Rat.mul_nonneg hk0 hk0; grind)
  have h7 : (6 + 6 * k) * (η * M) ≤ (6 + 6 * k) * (u * u * (2 * N)) := Rat.mul_le_mul_of_nonneg_left (by grind) (by grind)
  have h8 : (2 * k + k * k) * ((1 + 7 * u) * N) + (6 + 6 * k) * (u * u * (2 * N)) + 9 * (u * u * (u * u) * (2 * N)) ≤ 5 * u * N := by
    have : ((2 * k + k * k) * (1 + 7 * u) + (6 + 6 * k) * (u * u * 2) + 9 * (u * u * (u * u) * 2)) * N ≤ (5 * u) * N := Rat.mul_le_mul_of_nonneg_right (by rw [hk, hu]; unfold uu; decide +kernel) hN
    grind
  grind
end Lev

/- Plain: the laws GivensKeeps, GivensBack, joined. -/
set_option linter.unusedVariables false
namespace Lev
open Ieee

theorem ab_mul_le {c x : Rat} (h : ab c ≤ 1) : ab (c * x) ≤ ab x := by
  rw [ab_mul]
  have := Rat.mul_le_mul_of_nonneg_right h (ab_nonneg x)
  grind
theorem sq_sum_ge (x y : Rat) : (ab x + ab y) * (ab x + ab y) ≤ 2 * (x * x + y * y) := by
  have h := sq_nonneg (ab x - ab y)
  have e3 : ab x * ab x = x * x := by rw [← ab_mul, ab_of (sq_nonneg x)]
  have e4 : ab y * ab y = y * y := by rw [← ab_mul, ab_of (sq_nonneg y)]
  rw [← e3, ← e4]
  grind
theorem keep_sum {v2 w2 V2 W2 N C : Rat} (h1 : ab (v2 - V2) ≤ 5 * uu * N) (h2 : ab (w2 - W2) ≤ 5 * uu * N) (h3 : V2 + W2 = C * N) (h4 : ab (C - 1) ≤ 49 / 8 * uu) (hN : 0 ≤ N) : ab (v2 + w2 - N) ≤ N * 32 * uu := by
  have h5 : ab ((C - 1) * N) ≤ 49 / 8 * uu * N := by rw [ab_mul, ab_of hN]; exact Rat.mul_le_mul_of_nonneg_right h4 hN
  rw [ab_le_iff] at *
  unfold uu at *
  constructor <;> grind
structure KeepLaw (c s x y v w : Nat) : Prop where
  v64 : v < 18446744073709551616
  w64 : w < 18446744073709551616
  fv' : fin v
  fw : fin w
  size : ab (fv v * fv v + fv w * fv w - (fv x * fv x + fv y * fv y)) ≤ (fv x * fv x + fv y * fv y) * 32 * uu
  one : ab (fv v - (fv c * fv x + fv s * fv y)) ≤ (ab (fv c * fv x) + ab (fv s * fv y)) * 4 * uu + pw (-1070)
  two : ab (fv w - (fv c * fv y - fv s * fv x)) ≤ (ab (fv c * fv y) + ab (fv s * fv x)) * 4 * uu + pw (-1070)
theorem in_600 {x : Nat} (h : inS x = true) : fin x ∧ ab (fv x) ≤ pw 600 := ⟨(inS_bd h).1, Rat.le_trans (inS_bd h).2 (pw_le (by decide))⟩
theorem four_u {a M η : Rat} (h : a ≤ (2 * uu + 2 * (uu * uu)) * M + 3 * η) (hM : 0 ≤ M) (hη : η ≤ ηη) : a ≤ M * 4 * uu + pw (-1070) := by
  have h1 := η4
  have h2 : (2 * uu + 2 * (uu * uu)) * M ≤ 4 * uu * M := Rat.mul_le_mul_of_nonneg_right (by unfold uu; decide +kernel) hM
  have h3 := ηη_pos
  grind
theorem keep_law {c s x y : Nat} (u : UnitCS c s) (hx : inS x = true) (hy : inS y = true) : KeepLaw c s x y (fadd (fmul c x) (fmul s y)) (fsub (fmul c y) (fmul s x)) := by
  obtain ⟨η, h1, h2, h3, h4⟩ := in_size hx hy
  obtain ⟨fx, bx⟩ := in_600 hx
  obtain ⟨fy, bY⟩ := in_600 hy
  have t := turned u.fc u.fs u.c1 u.s1 fx fy bx bY h1
  have n1 := ab_nonneg (fv c * fv x)
  have n2 := ab_nonneg (fv s * fv y)
  have n3 := ab_nonneg (fv c * fv y)
  have n4 := ab_nonneg (fv s * fv x)
  have hu0 : 0 ≤ uu := by unfold uu; decide +kernel
  refine ⟨t.v64, t.w64, t.fv', t.fw, ?_, four_u t.ev (by grind) h3, four_u t.ew (by grind) h3⟩
  have hN : 0 ≤ fv x * fv x + fv y * fv y := by have := sq_nonneg (fv x); have := sq_nonneg (fv y); grind
  have hC : fv c * fv c + fv s * fv s ≤ 1 + 7 * uu := by have := ab_le_iff.1 u.one; grind
  have m1 : (ab (fv c * fv x) + ab (fv s * fv y)) * (ab (fv c * fv x) + ab (fv s * fv y)) ≤ (1 + 7 * uu) * (fv x * fv x + fv y * fv y) :=
    Rat.le_trans cauchy (Rat.mul_le_mul_of_nonneg_right hC hN)
  have m2 : (ab (fv c * fv y) + ab (fv s * fv x)) * (ab (fv c * fv y) + ab (fv s * fv x)) ≤ (1 + 7 * uu) * (fv x * fv x + fv y * fv y) := by
    have := Rat.le_trans (cauchy (c := fv c) (s := fv s) (x := fv y) (y := fv x)) (Rat.mul_le_mul_of_nonneg_right hC (by grind))
    rwa [show fv y * fv y + fv x * fv x = fv x * fv x + fv y * fv y from Rat.add_comm _ _] at this
  have l1 := ab_mul_le (x := fv x) u.c1
  have l2 := ab_mul_le (x := fv y) u.s1
  have l3 := ab_mul_le (x := fv y) u.c1
  have l4 := ab_mul_le (x := fv x) u.s1
  have hT := sq_sum_ge (fv x) (fv y)
  have a1 := ab_nonneg (fv x)
  have a2 := ab_nonneg (fv y)
  have q1 := err_sq (M := ab (fv c * fv x) + ab (fv s * fv y)) rfl rfl (by grind) (by grind) (by grind) m1 hT h2 h4 rfl
  have q2 := err_sq (M := ab (fv c * fv y) + ab (fv s * fv x)) rfl rfl (by grind) (by grind) (by grind) m2 hT h2 h4 rfl
  have he1 : 0 ≤ (2 * uu + 2 * (uu * uu)) * (ab (fv c * fv x) + ab (fv s * fv y)) + 3 * η := Rat.le_trans (ab_nonneg _) t.ev
  have he2 : 0 ≤ (2 * uu + 2 * (uu * uu)) * (ab (fv c * fv y) + ab (fv s * fv x)) + 3 * η := Rat.le_trans (ab_nonneg _) t.ew
  have d1 := sq_diff t.ev (ab_add _ _) he1
  have d2 := sq_diff (M := ab (fv c * fv y) + ab (fv s * fv x)) t.ew (by have := ab_add (fv c * fv y) (-(fv s * fv x)); rw [ab_neg, show fv c * fv y + -(fv s * fv x) = fv c * fv y - fv s * fv x from by grind] at this; exact this) he2
  exact keep_sum (C := fv c * fv c + fv s * fv s) (Rat.le_trans d1 q1) (Rat.le_trans d2 q2) (by grind) u.one hN
/-- The sign of a float, turned. -/
def fneg (s : Nat) : Nat := D.word (!sg s) (rg s)
theorem fneg_lt (s : Nat) : fneg s < 18446744073709551616 := word_lt64 _ _ (rg_lt s)
theorem fneg_fin {s : Nat} (h : fin s) : fin (fneg s) := by unfold fneg fin; rw [rg_word _ _ (rg_lt s)]; exact h
theorem fv_fneg (s : Nat) : fv (fneg s) = -fv s := by
  unfold fneg fv
  rw [sg_word _ _ (rg_lt s), rg_word _ _ (rg_lt s), sv_not]
structure BackLaw (c s x y v w p q : Nat) : Prop where
  p64 : p < 18446744073709551616
  q64 : q < 18446744073709551616
  fp : fin p
  fq : fin q
  px : ab (fv p - fv x) ≤ (ab (fv x) + ab (fv y)) * 32 * uu
  qy : ab (fv q - fv y) ≤ (ab (fv x) + ab (fv y)) * 32 * uu
theorem back_fin {T M1 M2 η e1 e2 ep p x c s C V W v w cv sw : Rat} (hT : 0 ≤ T) (hη0 : 0 ≤ η) (hη : η ≤ uu * uu * T) (hM1 : M1 ≤ T) (hM2 : M2 ≤ T) (h1 : ab e1 ≤ (2 * uu + 2 * (uu * uu)) * M1 + 3 * η) (h2 : ab e2 ≤ (2 * uu + 2 * (uu * uu)) * M2 + 3 * η)
    (hcv : ab cv ≤ M1 + ab e1) (hsw : ab sw ≤ M2 + ab e2) (hp : ab ep ≤ (2 * uu + 2 * (uu * uu)) * (ab cv + ab sw) + 3 * η) (hC : ab (C - 1) ≤ 49 / 8 * uu) (hx : ab x ≤ T) (ce se : Rat) (hce : ab ce ≤ ab e1) (hse : ab se ≤ ab e2)
    (hpx : p - x = ep + ce + se + (C - 1) * x) : ab (p - x) ≤ T * 32 * uu := by
  rw [hpx]
  have a1 := ab_add (ep + ce + se) ((C - 1) * x)
  have a2 := ab_add (ep + ce) se
  have a3 := ab_add ep ce
  have a4 : ab ((C - 1) * x) ≤ 49 / 8 * uu * T := by
    rw [ab_mul]
    have b1 := Rat.mul_le_mul_of_nonneg_right hC (ab_nonneg x)
    have b2 := Rat.mul_le_mul_of_nonneg_left hx (show 0 ≤ 49 / 8 * uu by unfold uu; decide +kernel)
    grind
  unfold uu at *
  grind
theorem back_law {c s x y v w : Nat} (u : UnitCS c s) (hx : inS x = true) (hy : inS y = true) (hv : v = fadd (fmul c x) (fmul s y)) (hw : w = fsub (fmul c y) (fmul s x)) :
    BackLaw c s x y v w (fadd (fmul c v) (fmul (fneg s) w)) (fsub (fmul c w) (fmul (fneg s) v)) ∧ Turned c (fneg s) v w ηη (fadd (fmul c v) (fmul (fneg s) w)) (fsub (fmul c w) (fmul (fneg s) v)) := by
  obtain ⟨η, h1, h2, h3, h4⟩ := in_size hx hy
  obtain ⟨fx, bx⟩ := in_600 hx
  obtain ⟨fy, bY⟩ := in_600 hy
  have t := turned u.fc u.fs u.c1 u.s1 fx fy bx bY h1
  rw [← hv, ← hw] at t
  have s1 : ab (fv (fneg s)) ≤ 1 := by rw [fv_fneg, ab_neg]; exact u.s1
  have l1 := ab_mul_le (x := fv x) u.c1
  have l2 := ab_mul_le (x := fv y) u.s1
  have l3 := ab_mul_le (x := fv y) u.c1
  have l4 := ab_mul_le (x := fv x) u.s1
  have a1 := ab_nonneg (fv x)
  have a2 := ab_nonneg (fv y)
  have hT0 : 0 ≤ ab (fv x) + ab (fv y) := by grind
  have x4 := (inS_bd hx).2
  have y4 := (inS_bd hy).2
  -- v and w are not great
  have vM : ab (fv v) ≤ ab (fv c * fv x) + ab (fv s * fv y) + ab (fv v - (fv c * fv x + fv s * fv y)) := by
    have b1 := ab_add (fv v - (fv c * fv x + fv s * fv y)) (fv c * fv x + fv s * fv y)
    have b2 := ab_add (fv c * fv x) (fv s * fv y)
    rw [show fv v - (fv c * fv x + fv s * fv y) + (fv c * fv x + fv s * fv y) = fv v from by grind] at b1
    grind
  have wM : ab (fv w) ≤ ab (fv c * fv y) + ab (fv s * fv x) + ab (fv w - (fv c * fv y - fv s * fv x)) := by
    have b1 := ab_add (fv w - (fv c * fv y - fv s * fv x)) (fv c * fv y - fv s * fv x)
    have b2 := ab_add (fv c * fv y) (-(fv s * fv x))
    rw [ab_neg, show fv c * fv y + -(fv s * fv x) = fv c * fv y - fv s * fv x from by grind] at b2
    rw [show fv w - (fv c * fv y - fv s * fv x) + (fv c * fv y - fv s * fv x) = fv w from by grind] at b1
    grind
  have h400 : 0 ≤ pw 400 := Rat.le_of_lt (pw_pos _)
  have h600 : 8 * pw 400 ≤ pw 600 := by
    rw [show (8 : Rat) = pw 3 from by decide +kernel, ← pw_add]; exact pw_le (by decide)
  have ev := t.ev
  have ew := t.ew
  have bv : ab (fv v) ≤ pw 600 := by unfold uu at *; grind
  have bw : ab (fv w) ≤ pw 600 := by unfold uu at *; grind
  have t2 := turned u.fc (fneg_fin u.fs) u.c1 s1 t.fv' t.fw bv bw (.inl rfl)
  have hz : η = ηη ∨ (η = 0 ∧ fv v = 0 ∧ fv w = 0) := by
    rcases h1 with h | ⟨h, hx0, hy0⟩
    · exact .inl h
    · right
      refine ⟨h, ?_, ?_⟩
      · rw [hx0, hy0] at vM ev
        rw [h] at ev
        rw [show fv c * 0 = 0 from by grind, show fv s * 0 = 0 from by grind, ab_zero] at vM ev
        have := ab_nonneg (fv v)
        exact ab_eq_zero (by grind)
      · rw [hx0, hy0] at wM ew
        rw [h] at ew
        rw [show fv c * 0 = 0 from by grind, show fv s * 0 = 0 from by grind, ab_zero] at wM ew
        have := ab_nonneg (fv w)
        exact ab_eq_zero (by grind)
  have t3 := turned u.fc (fneg_fin u.fs) u.c1 s1 t.fv' t.fw bv bw hz
  have ep := t3.ev
  have eq := t3.ew
  rw [fv_fneg] at ep eq
  have cv := ab_mul_le (x := fv v) u.c1
  have sw := ab_mul_le (x := fv w) (c := -fv s) (by rw [ab_neg]; exact u.s1)
  have cw := ab_mul_le (x := fv w) u.c1
  have sv := ab_mul_le (x := fv v) (c := -fv s) (by rw [ab_neg]; exact u.s1)
  have ce1 := ab_mul_le (x := fv v - (fv c * fv x + fv s * fv y)) u.c1
  have se2 := ab_mul_le (x := fv w - (fv c * fv y - fv s * fv x)) (c := -fv s) (by rw [ab_neg]; exact u.s1)
  have ce2 := ab_mul_le (x := fv w - (fv c * fv y - fv s * fv x)) u.c1
  have se1 := ab_mul_le (x := fv v - (fv c * fv x + fv s * fv y)) u.s1
  refine ⟨⟨t2.v64, t2.w64, t2.fv', t2.fw, ?_, ?_⟩, t2⟩
  · exact back_fin (T := ab (fv x) + ab (fv y)) (M1 := ab (fv c * fv x) + ab (fv s * fv y)) (M2 := ab (fv c * fv y) + ab (fv s * fv x)) (C := fv c * fv c + fv s * fv s) (V := 0) (W := 0) (v := 0) (w := 0) (c := 0) (s := 0) hT0 h2 h4 (by grind) (by grind) ev ew
      (cv := fv c * fv v) (sw := -fv s * fv w) (by grind) (by grind) (ep := fv (fadd (fmul c v) (fmul (fneg s) w)) - (fv c * fv v + -fv s * fv w)) ep u.one (by grind) (fv c * (fv v - (fv c * fv x + fv s * fv y))) (-fv s * (fv w - (fv c * fv y - fv s * fv x))) ce1 se2 (by grind)
  · exact back_fin (T := ab (fv x) + ab (fv y)) (M1 := ab (fv c * fv y) + ab (fv s * fv x)) (M2 := ab (fv c * fv x) + ab (fv s * fv y)) (C := fv c * fv c + fv s * fv s) (V := 0) (W := 0) (v := 0) (w := 0) (c := 0) (s := 0) hT0 h2 h4 (by grind) (by grind) ew ev
      (cv := fv c * fv w) (sw := -fv s * fv v) (by grind) (by grind) (ep := fv (fsub (fmul c w) (fmul (fneg s) v)) - (fv c * fv w - -fv s * fv v)) eq u.one (by grind) (fv c * (fv w - (fv c * fv y - fv s * fv x))) (fv s * (fv v - (fv c * fv x + fv s * fv y))) ce2 se1 (by grind)
end Lev

/- Plain: hyperbolic rotations; the law GivensRaises. -/
set_option linter.unusedVariables false
namespace Lev
open Ieee

structure HypCS (c s : Nat) : Prop where
  fc : fin c
  fs : fin s
  c64 : c < 18446744073709551616
  s64 : s < 18446744073709551616
  sgc : sg c = false
  clo : pw (-28) ≤ fv c
  rc : rg c ≤ oneF
  s1 : ab (fv s) ≤ 1
  one : ab (fv c * fv c + fv s * fv s - 1) ≤ 8 * uu
theorem HypCS.c1 {c s : Nat} (h : HypCS c s) : ab (fv c) ≤ 1 := by
  have h1 : ab (fv oneF) = 1 := by rw [fvOne]; decide +kernel
  rw [← h1, ab_fv, ab_fv, rg_one]
  exact unit_le.2 (rm_mono h.rc)
theorem hyp_trivial : HypCS oneF 0 := ⟨fin_one, fin_zero, by decide, by decide, by decide, by rw [fvOne, ← pw_zero]; exact pw_le (by decide), by decide, by rw [fv_zero]; decide +kernel, by rw [fvOne, fv_zero]; unfold uu; decide +kernel⟩
theorem hyp_prod {s a b m P : Rat} (h1 : 0 ≤ 1 - s) (h2 : 0 ≤ 1 + s) (hP : P = (1 - s) * (1 + s)) (ha : ab (a - (1 - s)) ≤ uu * (1 - s)) (hb : ab (b - (1 + s)) ≤ uu * (1 + s)) (ha0 : 0 ≤ a) (hb0 : 0 ≤ b) (hm : ab (m - a * b) ≤ uu * (a * b)) :
    0 ≤ P ∧ ab (a * b - P) ≤ (2 * uu + uu * uu) * P ∧ ab (m - P) ≤ (3 * uu + 4 * (uu * uu)) * P := by
  have hP0 : 0 ≤ P := by rw [hP]; exact Rat.mul_nonneg h1 h2
  have e : a * b - P = (a - (1 - s)) * (1 + s) + (1 - s) * (b - (1 + s)) + (a - (1 - s)) * (b - (1 + s)) := by rw [hP]; grind
  have k1 := ab_add ((a - (1 - s)) * (1 + s) + (1 - s) * (b - (1 + s))) ((a - (1 - s)) * (b - (1 + s)))
  have k2 := ab_add ((a - (1 - s)) * (1 + s)) ((1 - s) * (b - (1 + s)))
  rw [← e] at k1
  rw [ab_mul, ab_of h2, ab_mul, ab_of h1] at k2
  rw [ab_mul (a - (1 - s)) (b - (1 + s))] at k1
  have hu0 : 0 ≤ uu := by unfold uu; decide +kernel
  have k3 : ab (a - (1 - s)) * (1 + s) ≤ uu * (1 - s) * (1 + s) := Rat.mul_le_mul_of_nonneg_right ha h2
  have k4 : (1 - s) * ab (b - (1 + s)) ≤ (1 - s) * (uu * (1 + s)) := Rat.mul_le_mul_of_nonneg_left hb h1
  have k5 : ab (a - (1 - s)) * ab (b - (1 + s)) ≤ uu * (1 - s) * (uu * (1 + s)) := by
    have q1 := Rat.mul_le_mul_of_nonneg_right ha (ab_nonneg (b - (1 + s)))
    have q2 := Rat.mul_le_mul_of_nonneg_left hb (Rat.mul_nonneg hu0 h1)
    grind
  have e2 : uu * (1 - s) * (1 + s) = uu * P := by rw [hP]; grind
  have e3 : (1 - s) * (uu * (1 + s)) = uu * P := by rw [hP]; grind
  have e4 : uu * (1 - s) * (uu * (1 + s)) = uu * uu * P := by rw [hP]; grind
  rw [e2] at k3
  rw [e3] at k4
  rw [e4] at k5
  have r1 : ab (a * b - P) ≤ (2 * uu + uu * uu) * P := by grind
  refine ⟨hP0, r1, ?_⟩
  have r2 := ab_le_iff.1 r1
  have r3 : uu * (a * b) ≤ uu * (P + (2 * uu + uu * uu) * P) := Rat.mul_le_mul_of_nonneg_left (by grind) hu0
  have r4 := ab_add (m - a * b) (a * b - P)
  rw [show m - a * b + (a * b - P) = m - P from by grind] at r4
  unfold uu at *
  grind
theorem hyp_near {m P C : Rat} (hP : 0 ≤ P) (hP1 : P ≤ 1) (hC : 0 ≤ C) (h1 : ab (m - P) ≤ (3 * uu + 4 * (uu * uu)) * P) (h2 : C * ((1 - uu) * (1 - uu)) ≤ m) (h3 : m ≤ C * ((1 + uu) * (1 + uu))) : ab (C - P) ≤ 8 * uu ∧ P * (1 - 8 * uu) ≤ C := by
  rw [ab_le_iff] at *
  unfold uu at *
  refine ⟨⟨?_, ?_⟩, ?_⟩ <;> grind
theorem rr_1u : rr (1 + uu) = oneF := by decide +kernel
theorem sqrt_1 : rg (sqrtF 4607182418800017409) = oneF := by decide +kernel
theorem fv_1u : fv 4607182418800017409 = 1 + 2 * uu := by decide +kernel
theorem le_one {s : Nat} (h : rg s < oneF) : ab (fv s) ≤ 1 - uu := by
  have h1 : ab (fv 4607182418800017407) = 1 - uu := by decide +kernel
  have h2 : rg s ≤ 4607182418800017407 := by rw [oneF_eq] at h; omega
  rw [← h1, ab_fv, ab_fv, show rg 4607182418800017407 = 4607182418800017407 from by decide]
  exact unit_le.2 (rm_mono h2)
theorem hyp_law {s : Nat} (h : rg s < oneF) (hs64 : s < 18446744073709551616) : HypCS (sqrtF (fmul (fsub oneF s) (fadd oneF s))) s := by
  have hI := INF_eq
  have fs : fin s := by unfold fin; rw [oneF_eq] at h; omega
  obtain ⟨_, fa, sa, ba, ra⟩ := one_sub h
  obtain ⟨_, fb, sb, bb, rb⟩ := one_add h
  obtain ⟨_, _, _, _, fm, sm⟩ := hyp_facts h
  have hs1 := le_one h
  obtain ⟨l1, l2⟩ := ab_le (x := fv s)
  have hu0 : 0 < uu := by unfold uu; decide +kernel
  have n1 : 0 ≤ 1 - fv s := by grind
  have n2 : 0 ≤ 1 + fv s := by grind
  have ea := fsub_err fin_one fs fa
  have eb := fadd_err' fin_one fs fb
  rw [fvOne, ab_of n1] at ea
  rw [fvOne, ab_of n2] at eb
  have va := fv_nonneg sa
  have vb := fv_nonneg sb
  -- a, b are not small
  have hrep53 : rep (pw (-53)) := rep_pw1 (by decide) (by decide)
  have lo : ∀ {x : Rat} {z : Nat}, IsRnd x (rg z) → sg z = false → uu ≤ x → uu ≤ fv z := fun {x z} hr hz hx => by
    have := rnd_ge hr (B := pw (-53)) (by rw [uu_eq]; exact hx) hrep53
    rw [uu_eq] at this
    unfold fv; rw [hz]; exact this
  have la := lo ra sa (by grind)
  have lb := lo rb sb (by grind)
  have hab : uu * uu ≤ fv (fsub oneF s) * fv (fadd oneF s) := by
    have q1 := Rat.mul_le_mul_of_nonneg_right la vb
    have q2 := Rat.mul_le_mul_of_nonneg_left lb (Rat.le_of_lt hu0)
    grind
  have hab0 : 0 ≤ fv (fsub oneF s) * fv (fadd oneF s) := Rat.mul_nonneg va vb
  have em := fmul_err_big fa fb fm (.inr (by rw [ab_of hab0]; refine Rat.le_trans ?_ hab; rw [← uu_eq, ← pw_add]; exact pw_le (by decide)))
  rw [uu_eq, ab_of hab0] at em
  obtain ⟨hP0, hP1, hP2⟩ := hyp_prod n1 n2 rfl ea eb va vb em
  -- their product is not above 1 + 2 u
  have hprod : fv (fsub oneF s) * fv (fadd oneF s) ≤ 1 + 2 * uu := by
    rcases (by grind : uu ≤ ab (fv s) ∨ ab (fv s) < uu) with h5 | h5
    · have h6 := sq_le (Rat.le_of_lt hu0) h5
      rw [← ab_mul, ab_of (sq_nonneg (fv s))] at h6
      have h7 := ab_le_iff.1 hP1
      have h8 : (1 - fv s) * (1 + fv s) = 1 - fv s * fv s := by grind
      rw [h8] at h7
      unfold uu at *
      grind
    · have h6 : ∀ {x : Rat} {z : Nat}, IsRnd x (rg z) → sg z = false → x ≤ 1 + uu → fv z ≤ 1 := fun {x z} hr hz hx => by
        have hq := rr_spec (x := 1 + uu) (by grind)
        rw [rr_1u] at hq
        have := hr.mono hq hx
        have h7 : fv oneF = 1 := fvOne
        rw [← h7]
        unfold fv; rw [hz, sg_one, rg_one]
        exact unit_le.2 (rm_mono this)
      have q1 := h6 ra sa (by grind)
      have q2 := h6 rb sb (by grind)
      have q3 := Rat.mul_le_mul_of_nonneg_right q1 vb
      grind
  have hm1 : rg (fmul (fsub oneF s) (fadd oneF s)) ≤ 4607182418800017409 := by
    obtain ⟨r, hr, e, hir⟩ := fmul_word fa fb fm
    rw [ab_of hab0] at hir
    rw [e, rg_word _ _ hir.lt63]
    have hx := IsRnd.exact (r := 4607182418800017409) (by omega)
    have hv : (rm 4607182418800017409 : Rat) * pw (-1074) = 1 + 2 * uu := by
      rw [← fv_1u]; rfl
    rw [hv] at hx
    exact hir.mono hx hprod
  have hc1 : rg (sqrtF (fmul (fsub oneF s) (fadd oneF s))) ≤ oneF := by
    have := sqrtF_mono (a := fmul (fsub oneF s) (fadd oneF s)) (b := 4607182418800017409) fm (by unfold fin; rw [show rg 4607182418800017409 = 4607182418800017409 from by decide]; omega) sm (by decide) (by rw [show rg 4607182418800017409 = 4607182418800017409 from by decide]; exact hm1)
    rwa [sqrt_1] at this
  have hm0 : rg (fmul (fsub oneF s) (fadd oneF s)) ≠ 0 := fun h0 => by
    have h1 := fv_of_rg0 h0
    rw [h1] at em
    have h2 := ab_le_iff.1 em
    have h3 : 0 < uu * uu := Rat.mul_pos hu0 hu0
    have h4 : uu * (fv (fsub oneF s) * fv (fadd oneF s)) ≤ 1 / 2 * (fv (fsub oneF s) * fv (fadd oneF s)) := Rat.mul_le_mul_of_nonneg_right (by unfold uu; decide +kernel) hab0
    grind
  obtain ⟨q0, q1, q2⟩ := sqrt_err fm sm hm0
  obtain ⟨_, fc, c64, sc⟩ := sqrt_ok fm sm
  have hP3 : (1 - fv s) * (1 + fv s) = 1 - fv s * fv s := by grind
  have hs2 := sq_nonneg (fv s)
  obtain ⟨k1, k2⟩ := hyp_near hP0 (by grind) (sq_nonneg _) hP2 q1 q2
  generalize sqrtF (fmul (fsub oneF s) (fadd oneF s)) = c at *
  refine ⟨fc, fs, c64, hs64, sc, ?_, hc1, by grind, by rw [hP3] at k1; rw [show fv c * fv c + fv s * fv s - 1 = fv c * fv c - (1 - fv s * fv s) from by grind]; exact k1⟩
  -- c is not small
  have hPlo : uu ≤ (1 - fv s) * (1 + fv s) := by
    rcases (by grind : 0 ≤ fv s ∨ fv s ≤ 0) with h5 | h5
    · have := Rat.mul_le_mul_of_nonneg_left (show 1 ≤ 1 + fv s by grind) n1
      grind
    · have := Rat.mul_le_mul_of_nonneg_right (show 1 ≤ 1 - fv s by grind) n2
      grind
  rcases (by grind : pw (-28) ≤ fv c ∨ fv c < pw (-28)) with h5 | h5
  · exact h5
  · exfalso
    have h6 := sq_lt q0 h5
    rw [← pw_add] at h6
    have h7 : pw (-28 + -28) ≤ uu / 2 := by decide +kernel
    have h8 : uu * (1 - 8 * uu) ≤ (1 - fv s) * (1 + fv s) * (1 - 8 * uu) := Rat.mul_le_mul_of_nonneg_right hPlo (by unfold uu; decide +kernel)
    have h9 : uu / 2 ≤ uu * (1 - 8 * uu) := by unfold uu; decide +kernel
    grind
end Lev

/- Plain: the law GivensRaises, joined. -/
set_option linter.unusedVariables false
namespace Lev
open Ieee

theorem div_bd {a b : Nat} {B : Rat} (ha : fin a) (hb : fin b) (h0 : 0 < ab (fv b)) (h : ab (fv a) ≤ B * ab (fv b)) (hB : rep B) : D.div a b = some (fdiv a b) ∧ fin (fdiv a b) ∧ ab (fv (fdiv a b)) ≤ B ∧ fdiv a b < 18446744073709551616 := by
  have hI := INF_eq
  have hr0 : rg b ≠ 0 := fun e => by rw [fv_of_rg0 e, ab_zero] at h0; grind
  obtain ⟨r, h1, h2⟩ := div_spec ha hb hr0
  have e : fdiv a b = D.word (sg a ^^ sg b) r := by unfold fdiv; rw [h1]; rfl
  have hle : ab (fv a) / ab (fv b) ≤ B := by
    rw [Rat.div_def]
    have h3 := Rat.mul_le_mul_of_nonneg_right h (Rat.le_of_lt (Rat.inv_pos.2 h0))
    rwa [Rat.mul_assoc, Rat.mul_inv_cancel _ (by grind), Rat.mul_one] at h3
  obtain ⟨k1, k2⟩ := rnd_le h2 hle hB
  rw [e]
  exact ⟨h1, fin_word k1, by rw [ab_word k1]; exact k2, word_lt64 _ _ (by omega)⟩
theorem div_zero_fv {a b : Nat} (ha : fin a) (hb : fin b) (h0 : 0 < ab (fv b)) (hz : fv a = 0) : fv (fdiv a b) = 0 := by
  have hr0 : rg b ≠ 0 := fun e => by rw [fv_of_rg0 e, ab_zero] at h0; grind
  obtain ⟨r, h1, h2⟩ := div_spec ha hb hr0
  have e : fdiv a b = D.word (sg a ^^ sg b) r := by unfold fdiv; rw [h1]; rfl
  rw [hz, ab_zero, Rat.div_def, Rat.zero_mul] at h2
  rw [e, h2.zero_eq, fv_word (by decide), rm_zero]
  cases (sg a ^^ sg b) <;> simp [sv]
theorem raise_d {a u X η c t : Rat} (q1 : a ≤ (u * X + η) * c) (q3 : X * c = t) (q4 : η * c ≤ η * 1) : a ≤ u * t + η := by subst q3; grind
theorem raise_z {a u : Rat} (h : ab (a - 0) ≤ u * 0) : a = 0 := by
  have h1 := ab_nonneg (a - 0)
  have h2 : ab (a - 0) = 0 := by grind
  have := ab_eq_zero h2
  grind
theorem raise_big {a b p t v q u η x : Rat} (hu : u = uu) (q5 : p ≤ a + t) (hht : a ≤ u * p) (q6 : t ≤ b + v) (hb : b ≤ u * t + η) (hη : η ≤ u * x) (hx0 : 0 < x) (hp : 2 * x ≤ p) (hq : 0 ≤ q) (hv : 0 ≤ v) : x ≤ v + q := by
  rw [hu] at *
  unfold uu at *
  grind
structure RaiseLaw (c s p q v w : Nat) : Prop where
  msq : D.mul s q = some (fmul s q)
  sub : D.sub p (fmul s q) = some (fsub p (fmul s q))
  div : D.div (fsub p (fmul s q)) c = some v
  mcq : D.mul c q = some (fmul c q)
  msv : D.mul s v = some (fmul s v)
  sub2 : D.sub (fmul c q) (fmul s v) = some w
  v64 : v < 18446744073709551616
  w64 : w < 18446744073709551616
  fv' : fin v
  fw : fin w
  one : ab (fv c * fv v + fv s * fv q - fv p) ≤ (ab (fv v) + ab (fv q)) * 16 * uu
  two : ab (fv w - (fv c * fv q - fv s * fv v)) ≤ (ab (fv v) + ab (fv q)) * 16 * uu
theorem raise_one {c v t p t1 sq η T q : Rat} (hη0 : 0 ≤ η) (hT : T = ab v + ab q) (hη : η ≤ uu * uu * T) (hcv : ab (c * v) ≤ ab v) (h1 : ab (c * v - t) ≤ uu * ab t + η) (h2 : ab (t - (p - t1)) ≤ uu * ab (p - t1)) (h3 : ab (t1 - sq) ≤ uu * ab sq + η) (h4 : ab sq ≤ ab q) : ab (c * v + sq - p) ≤ T * 16 * uu := by
  have a1 := ab_add (c * v - t) t
  have a2 := ab_add (t - (c * v)) (c * v)
  have a3 := ab_add ((p - t1) - t) t
  have a4 : ab (t - c * v) = ab (c * v - t) := by rw [← ab_neg]; congr 1; grind
  have a5 : ab (p - t1 - t) = ab (t - (p - t1)) := by rw [← ab_neg]; congr 1; grind
  rw [show t - c * v + c * v = t from by grind, a4] at a2
  rw [show p - t1 - t + t = p - t1 from by grind, a5] at a3
  have a6 := ab_add (c * v - t) (t - (p - t1))
  have a7 := ab_add (c * v - t + (t - (p - t1))) (sq - t1)
  have a8 : ab (sq - t1) = ab (t1 - sq) := by rw [← ab_neg]; congr 1; grind
  rw [a8, show c * v - t + (t - (p - t1)) + (sq - t1) = c * v + sq - p from by grind] at a7
  have b1 := ab_nonneg q
  have b2 := ab_nonneg v
  have b3 := ab_nonneg t
  have b4 := ab_nonneg (p - t1)
  unfold uu at *
  grind
theorem raise_two {w P Q M T η : Rat} (h : ab (w - P) ≤ (2 * uu + 2 * (uu * uu)) * M + 3 * η) (hM : M ≤ T) (hη0 : 0 ≤ η) (hη : η ≤ uu * uu * T) (hT : 0 ≤ T) : ab (w - P) ≤ T * 16 * uu := by
  unfold uu at *
  grind
theorem raise_law {c s p q : Nat} (u : HypCS c s) (hp : inS p = true) (hq : inS q = true) : RaiseLaw c s p q (fdiv (fsub p (fmul s q)) c) (fsub (fmul c q) (fmul s (fdiv (fsub p (fmul s q)) c))) := by
  obtain ⟨fp, bp⟩ := inS_bd hp
  obtain ⟨fq, bq⟩ := inS_bd hq
  have h0 := ηη_pos
  have hclo := u.clo
  have hc28 := pw_pos (-28)
  have hc0 : 0 < fv c := by grind
  have hca : ab (fv c) = fv c := ab_of (Rat.le_of_lt hc0)
  have hc1 := u.c1
  -- s q
  have sq := ab_mul_le (x := fv q) u.s1
  have m1 := mul_bd (B := pw 400) u.fs fq (by rw [← ab_mul]; exact Rat.le_trans sq bq) (rep_pw1 (by decide) (by decide))
  have p401 : pw 401 = 2 * pw 400 := pw_double 400
  have m2 := sub_bd (B := pw 401) fp m1.2.1 (by have := m1.2.2.1; grind) (rep_pw1 (by decide) (by decide))
  have m3 := div_bd (B := pw 429) m2.2.1 u.fc (by rw [hca]; exact hc0) (by
    rw [hca]
    have q1 := Rat.mul_le_mul_of_nonneg_left hclo (Rat.le_of_lt (pw_pos 429))
    rw [← pw_add] at q1
    exact Rat.le_trans m2.2.2.1 q1) (rep_pw1 (by decide) (by decide))
  have hu0 : 0 ≤ uu * uu := by unfold uu; decide +kernel
  have n1 := ab_nonneg (fv (fdiv (fsub p (fmul s q)) c))
  have n2 := ab_nonneg (fv q)
  have h400 : ηη ≤ uu * uu * pw (-401) := by unfold ηη; rw [← uu_eq, ← pw_add, ← pw_add]; exact pw_le (by decide)
  have p_400 : pw (-401) ≤ pw (-400) := pw_le (by decide)
  have ht := fsub_err fp m1.2.1 m2.2.1
  have hqz := fun (t : Rat) (h : t * fv c = fv (fsub p (fmul s q))) => fdiv_err m2.2.1 u.fc (fun e => by rw [fv_of_rg0 e] at hc0; grind) m3.2.1 h
  have hinv : fv (fsub p (fmul s q)) * (fv c)⁻¹ * fv c = fv (fsub p (fmul s q)) := by rw [Rat.mul_assoc, Rat.inv_mul_cancel _ (by grind), Rat.mul_one]
  have hdv := hqz _ hinv
  -- what may be lost
  obtain ⟨η, e1, e2, e3, e4⟩ : ∃ η : Rat, (η = ηη ∨ (η = 0 ∧ fv (fdiv (fsub p (fmul s q)) c) = 0 ∧ fv q = 0)) ∧ 0 ≤ η ∧ η ≤ uu * uu * (ab (fv (fdiv (fsub p (fmul s q)) c)) + ab (fv q)) ∧ ab (fv c * fv (fdiv (fsub p (fmul s q)) c) - fv (fsub p (fmul s q))) ≤ uu * ab (fv (fsub p (fmul s q))) + η := by
    have hd : ab (fv c * fv (fdiv (fsub p (fmul s q)) c) - fv (fsub p (fmul s q))) ≤ uu * ab (fv (fsub p (fmul s q))) + ηη := by
      have q1 := Rat.mul_le_mul_of_nonneg_right hdv (Rat.le_of_lt hc0)
      have q2 : ab (fv (fdiv (fsub p (fmul s q)) c) - fv (fsub p (fmul s q)) * (fv c)⁻¹) * fv c = ab (fv c * fv (fdiv (fsub p (fmul s q)) c) - fv (fsub p (fmul s q))) := by
        rw [← hca, ← ab_mul, hca, ← hinv]
        congr 1
        rw [hinv]
        grind
      rw [q2] at q1
      have q3 : ab (fv (fsub p (fmul s q)) * (fv c)⁻¹) * fv c = ab (fv (fsub p (fmul s q))) := by
        conv => rhs; rw [← hinv]
        rw [ab_mul _ (fv c), hca]
      have q4 : ηη * fv c ≤ ηη * 1 := Rat.mul_le_mul_of_nonneg_left (by rw [hca] at hc1; exact hc1) (Rat.le_of_lt h0)
      exact raise_d q1 q3 q4
    by_cases hq0 : rg q = 0
    · have hqv := fv_of_rg0 hq0
      have hm0 : fv (fmul s q) = 0 := by
        have := fmul_err_big u.fs fq m1.2.1 (.inl (by rw [hqv, Rat.mul_zero]))
        rw [hqv, Rat.mul_zero, ab_zero] at this
        exact raise_z this
      by_cases hp0 : rg p = 0
      · have hpv := fv_of_rg0 hp0
        have ht0 : fv (fsub p (fmul s q)) = 0 := by
          rw [hm0, hpv, show (0 : Rat) - 0 = 0 from by grind, ab_zero] at ht
          exact raise_z ht
        have hvz := div_zero_fv m2.2.1 u.fc (by rw [hca]; exact hc0) ht0
        refine ⟨0, .inr ⟨rfl, hvz, hqv⟩, Rat.le_refl, ?_, ?_⟩
        · rw [hvz, hqv, ab_zero]; grind
        · rw [hvz, ht0, show fv c * 0 - 0 = 0 from by grind, ab_zero]; grind
      · refine ⟨ηη, .inl rfl, Rat.le_of_lt h0, ?_, hd⟩
        have hpg := inS_ge hp hp0
        rw [hm0, show fv p - 0 = fv p from by grind] at ht
        have q5 := ab_add (fv p - fv (fsub p (fmul s q))) (fv (fsub p (fmul s q)))
        rw [show fv p - fv (fsub p (fmul s q)) + fv (fsub p (fmul s q)) = fv p from by grind, show ab (fv p - fv (fsub p (fmul s q))) = ab (fv (fsub p (fmul s q)) - fv p) from by rw [← ab_neg]; congr 1; grind] at q5
        have q6 := ab_add (fv (fsub p (fmul s q)) - fv c * fv (fdiv (fsub p (fmul s q)) c)) (fv c * fv (fdiv (fsub p (fmul s q)) c))
        rw [show fv (fsub p (fmul s q)) - fv c * fv (fdiv (fsub p (fmul s q)) c) + fv c * fv (fdiv (fsub p (fmul s q)) c) = fv (fsub p (fmul s q)) from by grind, show ab (fv (fsub p (fmul s q)) - fv c * fv (fdiv (fsub p (fmul s q)) c)) = ab (fv c * fv (fdiv (fsub p (fmul s q)) c) - fv (fsub p (fmul s q))) from by rw [← ab_neg]; congr 1; grind] at q6
        have q7 := ab_mul_le (x := fv (fdiv (fsub p (fmul s q)) c)) hc1
        have q8 : pw (-401) ≤ ab (fv (fdiv (fsub p (fmul s q)) c)) + ab (fv q) := by
          have p400 : pw (-400) = 2 * pw (-401) := by rw [← pw_double]; rfl
          have h401 : ηη ≤ uu * pw (-401) := by unfold ηη; rw [← uu_eq, ← pw_add]; exact pw_le (by decide)
          exact raise_big rfl q5 ht (Rat.le_trans q6 (Rat.add_le_add_left.2 q7)) hd h401 (pw_pos _) (by rw [← p400]; exact hpg) n2 n1
        exact Rat.le_trans h400 (Rat.mul_le_mul_of_nonneg_left q8 hu0)
    · refine ⟨ηη, .inl rfl, Rat.le_of_lt h0, ?_, hd⟩
      have hqg := inS_ge hq hq0
      exact Rat.le_trans h400 (Rat.mul_le_mul_of_nonneg_left (show pw (-401) ≤ _ by grind) hu0)
  have hv600 : ab (fv (fdiv (fsub p (fmul s q)) c)) ≤ pw 600 := Rat.le_trans m3.2.2.1 (pw_le (by decide))
  have hq600 : ab (fv q) ≤ pw 600 := Rat.le_trans bq (pw_le (by decide))
  have t := turned u.fc u.fs hc1 u.s1 m3.2.1 fq hv600 hq600 e1
  refine ⟨m1.1, m2.1, m3.1, t.mcy, t.msx, t.sw, m3.2.2.2, t.w64, m3.2.1, t.fw, ?_, ?_⟩
  · refine raise_one (T := ab (fv (fdiv (fsub p (fmul s q)) c)) + ab (fv q)) (t1 := fv (fmul s q)) e2 rfl e3 (ab_mul_le hc1) e4 ht ?_ sq
    exact fmul_errz u.fs fq m1.2.1 (by rcases e1 with h | ⟨h, _, h'⟩; (· exact .inl h); (· exact .inr ⟨h, h'⟩))
  · have l1 := ab_mul_le (x := fv q) hc1
    have l2 := ab_mul_le (x := fv (fdiv (fsub p (fmul s q)) c)) u.s1
    exact raise_two (Q := 0) t.ew (by grind) e2 e3 (by grind)
end Lev
