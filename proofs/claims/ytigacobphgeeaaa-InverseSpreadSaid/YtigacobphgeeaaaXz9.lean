/- Plain: the law InverseSpread. -/
import Derived.Test.YtigacobphgeeaaaXx9
import Derived.Test.YtigacobphgeeaaaVp9
set_option linter.unusedVariables false
namespace Lev
open Ieee

theorem ldS_err {b : Nat} {k : Int} (hf : fin (ldS b k)) : ab (fv (ldS b k) - fv b * pw k) ≤ uu * ab (fv b * pw k) + ηη := by
  have h := rr_spec (mul_pw_nonneg b k)
  have h63 := h.lt63
  unfold ldS at hf ⊢
  have hr : rr (ab (fv b) * pw k) < INF := by unfold fin at hf; rwa [rg_word _ _ h63] at hf
  have e : fv b * pw k = sv (sg b) (ab (fv b) * pw k) := by
    rw [← sv_scale, fv_sv]
  rw [fv_word hr]
  conv => lhs; arg 1; arg 2; rw [e]
  rw [sv_sub, ab_sv', e, ab_sv', ab_of (mul_pw_nonneg b k), ← uu_eq]
  exact rnd_err_any h hr (mul_pw_nonneg b k)
theorem kL_at (x : Nat → Nat) : ∀ m, kL x m = -1000 ∨ ∃ i, i < m ∧ topB (x i) = kL x m
  | 0 => .inl rfl
  | m + 1 => by
    show max (kL x m) (topB (x m)) = -1000 ∨ ∃ i, i < m + 1 ∧ topB (x i) = max (kL x m) (topB (x m))
    rcases (by omega : topB (x m) ≤ kL x m ∨ kL x m < topB (x m)) with h | h
    · rw [show max (kL x m) (topB (x m)) = kL x m from by omega]
      rcases kL_at x m with h1 | ⟨i, hi, h1⟩
      · exact .inl h1
      · exact .inr ⟨i, by omega, h1⟩
    · exact .inr ⟨m, by omega, by omega⟩
theorem diag_ge {f : Fct} {n k : Nat} (hE : invE f = 0) (hn : f.C = (n : Int)) (hk : k < n) : pw (-421) ≤ ab (fv (wS (gS f) k k)) := by
  obtain ⟨hok, hw, hd⟩ := invE_nw hE hn
  have hu : ∀ i j, fin (gS f i j) ∧ ab (fv (gS f i j)) ≤ pw 420 := fun i j => small_bd (getS_small hok _ _)
  have hs : sg (gS f k k) = false := getS_sg hok hn (by omega)
  have hr := hd k hk
  have ha : 0 < fv (gS f k k) := fv_pos_lt hs hr
  obtain ⟨q, hq⟩ : ∃ q, q = 1 / fv (gS f k k) := ⟨_, rfl⟩
  have hqa : q * fv (gS f k k) = 1 := by rw [hq, Rat.div_mul_cancel (by grind)]
  have hq0 : 0 ≤ q := by
    refine Rat.not_lt.1 (fun h => ?_)
    have := Rat.mul_lt_mul_of_pos_right h ha
    rw [hqa, Rat.zero_mul] at this
    grind
  have hwk := hw k k (Nat.le_refl _) hk
  have hwk2 : fin (wS (gS f) k k) := hwk
  rw [wS_diag, arS_fdiv (by decide) (hu k k).1 hr] at hwk2
  have he := fdiv_err (a := oneF) (q := q) (by decide) (hu k k).1 hr hwk2 (by rw [hqa]; decide +kernel)
  rw [← arS_fdiv (by decide) (hu k k).1 hr, ← wS_diag, ab_of hq0] at he
  have hwl : q - uu * q - ηη ≤ ab (fv (wS (gS f) k k)) := by
    have h1 := (ab_le_iff.1 he).1
    have h2 : fv (wS (gS f) k k) ≤ ab (fv (wS (gS f) k k)) := by unfold ab; split <;> grind
    grind
  have h1 := (hu k k).2
  rw [ab_of (Rat.le_of_lt ha)] at h1
  have hl := least_w (η := ηη) hqa (Rat.le_of_lt ha) hwl (by
    have h2 := Rat.mul_le_mul_of_nonneg_left h1 (Rat.le_of_lt ηη_pos)
    refine Rat.le_trans h2 ?_
    unfold ηη
    rw [← pw_add, ← uu_eq]
    exact pw_le (by decide))
  refine Rat.not_lt.1 (fun h => ?_)
  have h3 := Rat.mul_le_mul_of_nonneg_left h1 (ab_nonneg (fv (wS (gS f) k k)))
  have h4 := Rat.mul_le_mul_of_nonneg_right (Rat.le_of_lt h) (Rat.le_of_lt (pw_pos 420))
  rw [← pw_add, show (-421 : Int) + 420 = -1 from by decide] at h4
  have h5 : pw (-1) < 1 - 2 * uu := by decide +kernel
  grind
theorem topB_ge {x : Nat} {e : Int} (hx : fin x) (h : pw e ≤ ab (fv x)) : rg x ≠ 0 ∧ e ≤ topB x := by
  have h0 : rg x ≠ 0 := fun h0 => by
    have : ab (fv x) = 0 := by rw [ab_fv, h0]; decide +kernel
    have := pw_pos e
    grind
  refine ⟨h0, ?_⟩
  have ht : topB x = topS x := by unfold topB; rw [if_pos (kindS_fin hx h0)]
  rw [ht]
  have h1 := val_lt h0
  rcases (by omega : e ≤ topS x ∨ topS x + 1 ≤ e) with h2 | h2
  · exact h2
  · have := pw_le h2
    grind
/-- A bit more than two roundings. -/
def dd : Rat := 2 * uu + uu * (1 / 1024)
theorem rt_lo {H V : Rat} (hH : 0 ≤ H) (hV : 0 ≤ V) (h1 : H * ((1 - uu) * (1 - uu)) ≤ V) (h2 : V ≤ H * ((1 + uu) * (1 + uu))) : V * (1 - dd) ≤ H ∧ H ≤ V * (1 + dd) := by
  unfold dd uu at *
  constructor <;> grind
theorem sq_two {a b u : Rat} (h : ab (a - b) ≤ u * b) (hb : 0 ≤ b) (hu : u = uu) : b * b * (1 - dd) ≤ a * a ∧ a * a ≤ b * b * (1 + dd) := by
  obtain ⟨h1, h2⟩ := ab_le_iff.1 h
  have a1 : (1 - u) * b ≤ a := by grind
  have a2 : a ≤ (1 + u) * b := by grind
  have a0 : 0 ≤ (1 - u) * b := Rat.mul_nonneg (by rw [hu]; decide +kernel) hb
  have s1 := sq_le a0 a1
  have s2 := sq_le (Rat.le_trans a0 a1) a2
  have hbb : 0 ≤ b * b := Rat.mul_nonneg hb hb
  have e1 : (1 - u) * b * ((1 - u) * b) = b * b * ((1 - u) * (1 - u)) := by grind
  have e2 : (1 + u) * b * ((1 + u) * b) = b * b * ((1 + u) * (1 + u)) := by grind
  rw [e1] at s1
  rw [e2] at s2
  have c1 : b * b * (1 - dd) ≤ b * b * ((1 - u) * (1 - u)) := Rat.mul_le_mul_of_nonneg_left (by rw [hu]; decide +kernel) hbb
  have c2 : b * b * ((1 + u) * (1 + u)) ≤ b * b * (1 + dd) := Rat.mul_le_mul_of_nonneg_left (by rw [hu]; decide +kernel) hbb
  exact ⟨Rat.le_trans c1 s1, Rat.le_trans s2 c2⟩
theorem sc_end {L q1 q2 uzz cz SQ CR r1 r2 r3 t1 xe ee η me : Rat} (h1 : L ≤ q1 + q2) (h2 : q1 ≤ uzz + η) (h3 : q2 ≤ cz) (h4 : uzz ≤ SQ) (h5 : cz ≤ CR) (h6 : SQ + η + CR = r1 + r2 + r3 + η) (h7 : r1 ≤ t1) (h8 : r2 ≤ 4 * xe) (h9 : r3 ≤ 2 * ee) (h10 : xe ≤ me) (h11 : ee ≤ me) (h12 : 1 * η ≤ me) (h0 : 0 ≤ η) : L ≤ t1 + 16 * me := by grind
/-- A scaled number, squared. -/
theorem sq_sc {X y q η M : Rat} {u : Rat} (hu : u = uu) (hy : ab (y - X) ≤ u * ab X + η) (hq : ab (q - y * y) ≤ u * ab (y * y) + η) (hX : ab X ≤ M) (hη : 0 ≤ η) (hη1 : η ≤ 1) (hM : 1 ≤ M) :
    ab (q - X * X) ≤ (3 * uu + uu * (1 / 1024)) * ab (X * X) + 16 * M * η := by
  have hXX : ab (X * X) = ab X * ab X := ab_mul _ _
  have hyy : ab (y * y) = ab y * ab y := ab_mul _ _
  have h0 := ab_nonneg X
  have h1 := ab_nonneg y
  have hya : ab y ≤ ab X + (u * ab X + η) := by
    have := ab_add (y - X) X
    rw [show y - X + X = y from by grind] at this
    grind
  have hxd : ab (y * y - X * X) ≤ (u * ab X + η) * (ab y + ab X) := by
    rw [show y * y - X * X = (y - X) * (y + X) from by grind, ab_mul]
    have a1 := Rat.mul_le_mul_of_nonneg_right hy (ab_nonneg (y + X))
    have a2 : (u * ab X + η) * ab (y + X) ≤ (u * ab X + η) * (ab y + ab X) := Rat.mul_le_mul_of_nonneg_left (ab_add y X) (by have := Rat.mul_nonneg (show 0 ≤ u by rw [hu]; decide +kernel) h0; grind)
    exact Rat.le_trans a1 a2
  have hsum := ab_add (q - y * y) (y * y - X * X)
  rw [show q - y * y + (y * y - X * X) = q - X * X from by grind] at hsum
  rw [hXX]
  rw [hyy] at hq
  generalize ab X = x at *
  generalize ab y = z at *
  have hu0 : 0 ≤ u := by rw [hu]; decide +kernel
  have hu1 : u ≤ 1 / 4194304 := by rw [hu]; decide +kernel
  have hz2 : z * z ≤ (x + (u * x + η)) * (x + (u * x + η)) := sq_le h1 hya
  have b1 : (u * x + η) * (z + x) ≤ (u * x + η) * (x + (u * x + η) + x) := Rat.mul_le_mul_of_nonneg_left (by grind) (by have := Rat.mul_nonneg hu0 h0; grind)
  have b2 := Rat.mul_le_mul_of_nonneg_left hz2 hu0
  have hxx : 0 ≤ x * x := Rat.mul_nonneg h0 h0
  have hxη : x * η ≤ M * η := Rat.mul_le_mul_of_nonneg_right hX hη
  have hηη : η * η ≤ M * η := by
    have := Rat.mul_le_mul_of_nonneg_right (show η ≤ M by grind) hη
    exact this
  have h1η : 1 * η ≤ M * η := Rat.mul_le_mul_of_nonneg_right hM hη
  have hxη0 : 0 ≤ x * η := Rat.mul_nonneg h0 hη
  have hηη0 : 0 ≤ η * η := Rat.mul_nonneg hη hη
  -- every coefficient by itself
  have c1 : (u * (1 + u) * (1 + u) + u * (2 + u)) * (x * x) ≤ (3 * uu + uu * (1 / 1024)) * (x * x) := Rat.mul_le_mul_of_nonneg_right (by rw [hu]; decide +kernel) hxx
  have c2 : (2 * u * (1 + u) + 2 * u + 2) * (x * η) ≤ 4 * (x * η) := Rat.mul_le_mul_of_nonneg_right (by rw [hu]; decide +kernel) hxη0
  have c3 : (u + 1) * (η * η) ≤ 2 * (η * η) := Rat.mul_le_mul_of_nonneg_right (by rw [hu]; decide +kernel) hηη0
  have e1 : u * ((x + (u * x + η)) * (x + (u * x + η))) + η + (u * x + η) * (x + (u * x + η) + x) = (u * (1 + u) * (1 + u) + u * (2 + u)) * (x * x) + (2 * u * (1 + u) + 2 * u + 2) * (x * η) + (u + 1) * (η * η) + η := by grind
  rw [show 16 * M * η = 16 * (M * η) from by grind]
  exact sc_end hsum hq hxd b2 b1 e1 c1 c2 c3 hxη hηη h1η hη
theorem spread_ch {V S2 R2 s T K2 L2 ε e : Rat} (hV : 0 ≤ V) (hT : 0 ≤ T) (hK : 0 ≤ K2) (hs : 0 ≤ s) (hR : 0 ≤ R2)
    (s1 : V * (1 - dd) ≤ S2) (s2 : S2 ≤ V * (1 + dd)) (r1 : s * (1 - dd) ≤ R2) (r2 : R2 ≤ s * (1 + dd)) (t1 : T * (1 - ε) ≤ s) (t2 : s ≤ T * (1 + ε))
    (l1 : S2 * (R2 * K2) * (1 - dd) ≤ L2) (l2 : L2 ≤ S2 * (R2 * K2) * (1 + dd)) (h1 : (1 + ε) * ((1 + dd) * (1 + dd) * (1 + dd)) ≤ 1 + e) (h2 : 1 - e ≤ (1 - ε) * ((1 - dd) * (1 - dd) * (1 - dd))) :
    ab (L2 - V * (T * K2)) ≤ V * (T * K2) * e := by
  have d1 : 0 ≤ 1 - dd := by decide +kernel
  have d2 : 0 ≤ 1 + dd := by decide +kernel
  have hZ : 0 ≤ R2 * K2 := Rat.mul_nonneg hR hK
  have hP : 0 ≤ V * (T * K2) := Rat.mul_nonneg hV (Rat.mul_nonneg hT hK)
  -- above
  have u1 := Rat.mul_le_mul_of_nonneg_right s2 hZ
  have u2 : R2 ≤ T * (1 + ε) * (1 + dd) := Rat.le_trans r2 (Rat.mul_le_mul_of_nonneg_right t2 d2)
  have u3 := Rat.mul_le_mul_of_nonneg_left (Rat.mul_le_mul_of_nonneg_right u2 hK) (Rat.mul_nonneg hV d2)
  have u4 := Rat.mul_le_mul_of_nonneg_right (Rat.le_trans u1 u3) d2
  have u5 := Rat.mul_le_mul_of_nonneg_left h1 hP
  have e1 : V * (1 + dd) * (T * (1 + ε) * (1 + dd) * K2) * (1 + dd) = V * (T * K2) * ((1 + ε) * ((1 + dd) * (1 + dd) * (1 + dd))) := by grind
  rw [e1] at u4
  -- below
  have w1 := Rat.mul_le_mul_of_nonneg_right s1 hZ
  have w2 : T * (1 - ε) * (1 - dd) ≤ R2 := Rat.le_trans (Rat.mul_le_mul_of_nonneg_right t1 d1) r1
  have w3 := Rat.mul_le_mul_of_nonneg_left (Rat.mul_le_mul_of_nonneg_right w2 hK) (Rat.mul_nonneg hV d1)
  have w4 := Rat.mul_le_mul_of_nonneg_right (Rat.le_trans w3 w1) d1
  have w5 := Rat.mul_le_mul_of_nonneg_left h2 hP
  have e2 : V * (1 - dd) * (T * (1 - ε) * (1 - dd) * K2) * (1 - dd) = V * (T * K2) * ((1 - ε) * ((1 - dd) * (1 - dd) * (1 - dd))) := by grind
  rw [e2] at w4
  rw [ab_le_iff]
  have f1 := Rat.le_trans l2 (Rat.le_trans u4 u5)
  have f2 := Rat.le_trans w5 (Rat.le_trans w4 l1)
  generalize V * (T * K2) = P at *
  constructor <;> grind
theorem err_num' {m n u v c b ε : Rat} (hm1 : 1 ≤ m) (hm : m ≤ n) (hn : n ≤ 6) (hu : 0 ≤ u) (hv0 : 0 ≤ v) (hv : v ≤ u * (1 + 1 / 1024)) (h9 : 9 * u ≤ 1) (h3 : 9 * u * (6 * u + 1 / 64 * u) ≤ 1 / 64 * u) (h6 : 0 ≤ 6 * u + 1 / 64 * u)
    (c1 : c ≤ 1 + 6 * u + 1 / 64 * u) (b1 : 1 - 6 * u - 1 / 64 * u ≤ b) (hε : ε = (m - 1) * v + (3 * u + u * (1 / 1024)) + u * (1 / 1024)) :
    (1 + ε) * c ≤ 1 + (n + 10) * u ∧ 1 - (n + 10) * u ≤ (1 - ε) * b := by
  have v1 : (m - 1) * v ≤ (m - 1) * (u * (1 + 1 / 1024)) := Rat.mul_le_mul_of_nonneg_left hv (by grind)
  have hmu : (m - 1) * u ≤ 5 * u := Rat.mul_le_mul_of_nonneg_right (by grind) hu
  have hmv : 0 ≤ (m - 1) * v := Rat.mul_nonneg (by grind) hv0
  have e1 : (m - 1) * (u * (1 + 1 / 1024)) = (m - 1) * u + 1 / 1024 * ((m - 1) * u) := by grind
  have hε1 : ε ≤ (m - 1) * u + 3 * u + 1 / 64 * u := by grind
  have hε0 : 0 ≤ ε := by grind
  have hεs : ε ≤ 9 * u := by grind
  have hmn : (m - 1) * u ≤ (n - 1) * u := Rat.mul_le_mul_of_nonneg_right (by grind) hu
  have t2 : ε * (6 * u + 1 / 64 * u) ≤ 9 * u * (6 * u + 1 / 64 * u) := Rat.mul_le_mul_of_nonneg_right hεs h6
  have t3 : 0 ≤ ε * (6 * u + 1 / 64 * u) := Rat.mul_nonneg hε0 h6
  have t := Rat.mul_le_mul_of_nonneg_left c1 (show 0 ≤ 1 + ε by grind)
  have t' := Rat.mul_le_mul_of_nonneg_left b1 (show 0 ≤ 1 - ε by grind)
  constructor <;> grind
theorem err_num {m n : Rat} (hm1 : 1 ≤ m) (hm : m ≤ n) (hn : n ≤ 6) :
    (1 + ((m - 1) * vv + (3 * uu + uu * (1 / 1024)) + uu * (1 / 1024))) * ((1 + dd) * (1 + dd) * (1 + dd)) ≤ 1 + (n + 10) * uu ∧
    1 - (n + 10) * uu ≤ (1 - ((m - 1) * vv + (3 * uu + uu * (1 / 1024)) + uu * (1 / 1024))) * ((1 - dd) * (1 - dd) * (1 - dd)) :=
  err_num' hm1 hm hn (by decide +kernel) (by decide +kernel) (by decide +kernel) (by decide +kernel) (by decide +kernel) (by decide +kernel) (by decide +kernel) (by decide +kernel) rfl
theorem eps_small {m u v ε : Rat} (hm : m ≤ 6) (hv : 0 ≤ v) (hs : 5 * v + (3 * u + u * (1 / 1024)) + u * (1 / 1024) ≤ 1 / 8) (hε : ε = (m - 1) * v + (3 * u + u * (1 / 1024)) + u * (1 / 1024)) : ε ≤ 1 / 8 := by
  have v1 : (m - 1) * v ≤ 5 * v := Rat.mul_le_mul_of_nonneg_right (by grind) hv
  grind
theorem ts_two {s T m v u ε t : Rat} (h : ab (s - T) ≤ ((m - 1) * v + (3 * u + u * (1 / 1024))) * T + t) (ht : t ≤ u * (1 / 1024) * T) (hε : ε = (m - 1) * v + (3 * u + u * (1 / 1024)) + u * (1 / 1024)) : T * (1 - ε) ≤ s ∧ s ≤ T * (1 + ε) := by
  obtain ⟨h1, h2⟩ := ab_le_iff.1 h
  subst hε
  constructor <;> grind
theorem sumR_scale {x : Nat → Rat} {K : Rat} (m : Nat) : sumR (fun s => x s * x s) m * (K * K) = sumR (fun s => (x s * K) * (x s * K)) m := by
  rw [← sumR_mul]
  exact sumR_congr m (fun i _ => by grind)
theorem size_law {x : Nat → Nat} {m : Nat} (hm1 : 1 ≤ m) (hm : m ≤ 6) (hx : ∀ i, i < m → fin (x i)) (h0 : pw (-421) ≤ ab (fv (x 0))) (hz : fin (sizeS x m)) :
    ∃ R2 s T K2 : Rat, 0 ≤ R2 ∧ 0 ≤ s ∧ 1 ≤ T ∧ 0 ≤ K2 ∧ fv (sizeS x m) * fv (sizeS x m) = R2 * K2 ∧ sumR (fun i => fv (x i) * fv (x i)) m = T * K2 ∧ s * (1 - dd) ≤ R2 ∧ R2 ≤ s * (1 + dd) ∧
      T * (1 - (((m : Rat) - 1) * vv + (3 * uu + uu * (1 / 1024)) + uu * (1 / 1024))) ≤ s ∧ s ≤ T * (1 + (((m : Rat) - 1) * vv + (3 * uu + uu * (1 / 1024)) + uu * (1 / 1024))) ∧ sg (sizeS x m) = false ∧ pw (-424) ≤ fv (sizeS x m) := by
  obtain ⟨hk, hyq, _, _, _, _, hRf, hyf, hsf, hRs⟩ := size_facts hm hx
  obtain ⟨hx0, hk0⟩ := topB_ge (hx 0 (by omega)) h0
  have hkl := (kL_ge x m).2 0 (by omega)
  have hkL : -421 ≤ kL x m := by omega
  have hkS : -421 ≤ kS x m := by unfold kS; omega
  obtain ⟨i0, hi0, ht0⟩ := (kL_at x m).resolve_left (by omega)
  -- the greatest, scaled, is not below 1
  have hg0 : rg (x i0) ≠ 0 := fun h => by
    have : topB (x i0) = -2000 := by
      unfold topB
      rw [if_neg]
      unfold kindS
      have := INF_eq
      rw [if_neg (by omega), if_neg (by omega), if_pos h]
      decide
    omega
  have hts : topB (x i0) = topS (x i0) := by unfold topB; rw [if_pos (kindS_fin (hx i0 hi0) hg0)]
  have hX1 : 1 ≤ ab (fv (x i0) * pw (-kS x m)) := by
    have a1 := Rat.mul_le_mul_of_nonneg_right (val_ge hg0) (Rat.le_of_lt (pw_pos (-kS x m)))
    rw [← pw_add] at a1
    have a2 : pw 0 ≤ pw (topS (x i0) + -kS x m) := pw_le (by unfold kS; omega)
    rw [pw_zero] at a2
    rw [ab_mul, ab_pw]
    exact Rat.le_trans a2 a1
  have hT1 : 1 ≤ sumR (fun i => (fv (x i) * pw (-kS x m)) * (fv (x i) * pw (-kS x m))) m := by
    have a1 := sumR_ge (t := fun i => (fv (x i) * pw (-kS x m)) * (fv (x i) * pw (-kS x m))) m (fun i _ => sq_nonneg _) i0 hi0
    have a2 := sq_le (show (0 : Rat) ≤ 1 by decide) hX1
    rw [← ab_mul, ab_of (sq_nonneg _), show (1 : Rat) * 1 = 1 from by decide +kernel] at a2
    exact Rat.le_trans a2 a1
  -- its sum
  have hterm : ∀ i, i < m → ab (fv (qS x (kS x m) i) - (fv (x i) * pw (-kS x m)) * (fv (x i) * pw (-kS x m))) ≤ (3 * uu + uu * (1 / 1024)) * ab ((fv (x i) * pw (-kS x m)) * (fv (x i) * pw (-kS x m))) + 16 * pw 24 * ηη := fun i hi => by
    obtain ⟨f1, f2, f3, _⟩ := hyf i hi
    refine sq_sc (u := uu) rfl (ldS_err f1) (by have := fmul_err' f1 f1 f2; exact this) ?_ (Rat.le_of_lt ηη_pos) ?_ ?_
    · rw [ab_mul, ab_pw]; exact yS_bd hi hx
    · unfold ηη; rw [← pw_zero]; exact pw_le (by decide)
    · rw [← pw_zero]; exact pw_le (by decide)
  obtain ⟨p, hp⟩ : ∃ p, m = p + 1 := ⟨m - 1, by omega⟩
  have hserr := sum_err (t := qS x (kS x m)) (T := fun i => (fv (x i) * pw (-kS x m)) * (fv (x i) * pw (-kS x m))) (w := 3 * uu + uu * (1 / 1024)) (η := 16 * pw 24 * ηη) (by decide +kernel) (by decide +kernel) (Rat.mul_nonneg (Rat.mul_nonneg (by decide) (Rat.le_of_lt (pw_pos _))) (Rat.le_of_lt ηη_pos)) p (by omega) (fun i hi => by
    have hf := sumT_bd (t := qS x (kS x m)) (E := 48) (by decide) (by decide) (i + 1) (by omega) (fun q hq => ⟨(hyf q (by omega)).2.1, (hyf q (by omega)).2.2.1⟩)
    exact ⟨(hyf i (by omega)).2.1, hf.1, hterm i (by omega)⟩)
  rw [sumR_congr (t := fun i => ab ((fv (x i) * pw (-kS x m)) * (fv (x i) * pw (-kS x m)))) (s := fun i => (fv (x i) * pw (-kS x m)) * (fv (x i) * pw (-kS x m))) (p + 1) (fun i _ => ab_of (sq_nonneg _)), ← hp] at hserr
  have hpr : (p : Rat) = (m : Rat) - 1 := by rw [hp, Rat.natCast_add]; show (p : Rat) = (p : Rat) + 1 - 1; grind
  have hsg := sumT_sgF (t := qS x (kS x m)) (E := 48) (by decide) (by decide) m (by omega) (fun i hi => ⟨(hyf i hi).2.1, (hyf i hi).2.2.1, (hyf i hi).2.2.2⟩)
  have hmr : (m : Rat) ≤ 6 := by have := cast_le.2 hm; exact this
  have hmr1 : 1 ≤ (m : Rat) := by have := cast_le.2 hm1; exact this
  rw [hpr] at hserr
  obtain ⟨T, hTe⟩ : ∃ T, T = sumR (fun i => (fv (x i) * pw (-kS x m)) * (fv (x i) * pw (-kS x m))) m := ⟨_, rfl⟩
  rw [← hTe] at hserr hT1
  have htiny : 2 * ((m : Rat) - 1 + 1) * (16 * pw 24 * ηη) ≤ uu * (1 / 1024) * T := by
    have a1 : 16 * pw 24 * ηη ≤ uu * (1 / 1024) * (1 / 12) := by
      have b1 : 16 * pw 24 * ηη = 16 * (pw 24 * ηη) := by grind
      have b2 : pw 24 * ηη ≤ pw (-100) := by unfold ηη; rw [← pw_add]; exact pw_le (by decide)
      have b3 : 16 * pw (-100) ≤ uu * (1 / 1024) * (1 / 12) := by decide +kernel
      rw [b1]; grind
    have a2 : 2 * ((m : Rat) - 1 + 1) * (16 * pw 24 * ηη) ≤ 12 * (16 * pw 24 * ηη) := Rat.mul_le_mul_of_nonneg_right (by grind) (Rat.mul_nonneg (Rat.mul_nonneg (by decide) (Rat.le_of_lt (pw_pos _))) (Rat.le_of_lt ηη_pos))
    have a3 : uu * (1 / 1024) * 1 ≤ uu * (1 / 1024) * T := Rat.mul_le_mul_of_nonneg_left hT1 (by decide +kernel)
    grind
  obtain ⟨ε, hε⟩ : ∃ ε, ε = ((m : Rat) - 1) * vv + (3 * uu + uu * (1 / 1024)) + uu * (1 / 1024) := ⟨_, rfl⟩
  have hεs : ε ≤ 1 / 8 := eps_small hmr (show (0 : Rat) ≤ vv by decide +kernel) (by decide +kernel) hε
  obtain ⟨t1, t2⟩ := ts_two hserr htiny hε
  have hsl : 1 / 2 ≤ fv (sumT (qS x (kS x m)) m) := by
    have : 1 * (1 - ε) ≤ T * (1 - ε) := Rat.mul_le_mul_of_nonneg_right hT1 (by grind)
    grind
  have hs0 : rg (sumT (qS x (kS x m)) m) ≠ 0 := fun h => by rw [fv_of_rg0 h] at hsl; exact absurd hsl (by decide +kernel)
  obtain ⟨q0, q1, q2⟩ := sqrt_err hsf hsg hs0
  obtain ⟨r1, r2⟩ := rt_lo (sq_nonneg _) (fv_nonneg hsg) q1 q2
  -- the root
  have hRl : pw (-2) ≤ fv (sqrtF (sumT (qS x (kS x m)) m)) := by
    refine Rat.not_lt.1 (fun h => ?_)
    have a1 := sq_le q0 (Rat.le_of_lt h)
    have a2 : pw (-2) * pw (-2) < 1 / 2 * (1 - dd) := by decide +kernel
    have a3 := Rat.mul_le_mul_of_nonneg_right hsl (show 0 ≤ 1 - dd by decide +kernel)
    exact absurd (Rat.le_trans a3 (Rat.le_trans r1 a1)) (Rat.not_le.2 a2)
  have hRa : ab (fv (sqrtF (sumT (qS x (kS x m)) m))) = fv (sqrtF (sumT (qS x (kS x m)) m)) := ab_of q0
  obtain ⟨hR0, hRt⟩ := topB_ge (x := sqrtF (sumT (qS x (kS x m)) m)) (e := -2) hRf (by rw [hRa]; exact hRl)
  rw [show topB (sqrtF (sumT (qS x (kS x m)) m)) = topS (sqrtF (sumT (qS x (kS x m)) m)) from by unfold topB; rw [if_pos (kindS_fin hRf hR0)]] at hRt
  have hZe : fv (sizeS x m) = fv (sqrtF (sumT (qS x (kS x m)) m)) * pw (kS x m) := by
    refine (ldS_exact hR0 (by omega) ?_).2
    rcases (by omega : topS (sqrtF (sumT (qS x (kS x m)) m)) + kS x m ≤ 1023 ∨ 1023 < topS (sqrtF (sumT (qS x (kS x m)) m)) + kS x m) with h | h
    · exact h
    · have e := ldS_high hR0 h
      unfold sizeS at hz
      rw [e] at hz
      unfold fin at hz
      rw [rg_word _ _ (by decide)] at hz
      omega
  refine ⟨fv (sqrtF (sumT (qS x (kS x m)) m)) * fv (sqrtF (sumT (qS x (kS x m)) m)), fv (sumT (qS x (kS x m)) m), T, pw (kS x m) * pw (kS x m), sq_nonneg _, fv_nonneg hsg, hT1, Rat.mul_nonneg (Rat.le_of_lt (pw_pos _)) (Rat.le_of_lt (pw_pos _)), by rw [hZe]; grind, ?_, r1, r2, by rw [← hε]; exact t1, by rw [← hε]; exact t2, ?_, ?_⟩
  · rw [hTe, ← sumR_scale]
    have := pw_neg (kS x m)
    have e2 : ∀ z : Rat, z * (pw (-kS x m) * pw (-kS x m)) * (pw (kS x m) * pw (kS x m)) = z * ((pw (-kS x m) * pw (kS x m)) * (pw (-kS x m) * pw (kS x m))) := fun z => by grind
    rw [e2, this]; grind
  · unfold sizeS ldS
    rw [sg_word _ _ (rr_spec (mul_pw_nonneg _ _)).lt63]
    exact hRs
  · rw [hZe]
    have a1 := Rat.mul_le_mul_of_nonneg_right hRl (Rat.le_of_lt (pw_pos (kS x m)))
    rw [← pw_add] at a1
    exact Rat.le_trans (pw_le (by omega)) a1
theorem fmul_sg {a b : Nat} (ha : fin a) (hb : fin b) (h1 : sg a = false) (h2 : sg b = false) : sg (fmul a b) = false := by
  obtain ⟨r, e, h⟩ := mul_spec ha hb
  have e1 : fmul a b = D.word (sg a ^^ sg b) r := by unfold fmul; rw [e]; rfl
  rw [e1, sg_word _ _ h.lt63, h1, h2]; rfl
theorem flt_nn {a : Nat} (h : sg a = false) : flt a 0 = false := by
  unfold flt
  rw [decide_eq_false_iff_not]
  rintro ⟨_, _, h3⟩
  rw [← fv_lt, fv_zero] at h3
  have := fv_nonneg h
  grind
theorem root_big {S V : Rat} (hS : 0 ≤ S) (hV : pw (-1074) ≤ V) (h : V ≤ S * S * ((1 + uu) * (1 + uu))) : pw (-538) ≤ S := by
  refine Rat.not_lt.1 (fun h1 => ?_)
  have a1 := sq_le hS (Rat.le_of_lt h1)
  rw [← pw_add, show (-538 : Int) + -538 = -2 + -1074 from by decide, pw_add] at a1
  have a2 := Rat.mul_le_mul_of_nonneg_right a1 (show 0 ≤ (1 + uu) * (1 + uu) by decide +kernel)
  have a3 : pw (-2) * ((1 + uu) * (1 + uu)) ≤ 1 / 2 := by decide +kernel
  have a4 := Rat.mul_le_mul_of_nonneg_right a3 (Rat.le_of_lt (pw_pos (-1074)))
  have a5 := Rat.le_trans hV (Rat.le_trans h a2)
  rw [show pw (-2) * pw (-1074) * ((1 + uu) * (1 + uu)) = pw (-2) * ((1 + uu) * (1 + uu)) * pw (-1074) from by grind] at a5
  have a6 := Rat.le_trans a5 a4
  have a7 := pw_pos (-1074)
  grind
theorem errE_ok {f : Fct} {n : Nat} (hn : f.C = (n : Int)) (hE : errE f = 0) : stE f = 0 ∧ invE f = 0 ∧ errW f n = false := by
  unfold errE at hE
  split at hE
  · next h => exact absurd hE h
  · next h =>
    split at hE
    · next h2 => exact absurd hE h2
    · next h2 =>
      split at hE
      · exact absurd hE (by decide)
      · next h3 =>
        rw [hn, Int.toNat_natCast] at h3
        exact ⟨by simpa using h, by simpa using h2, by simpa using h3⟩
theorem st_free {f : Fct} (h : stE f = 0) : f.ok = true ∧ 1 ≤ f.R - f.C := by
  have hok : f.ok = true := by
    cases e : f.ok
    · rw [stE_no e] at h; exact absurd h (by decide)
    · rfl
  refine ⟨hok, ?_⟩
  by_cases h2 : f.R - f.C < 1
  · rw [stE_few hok h2] at h; exact absurd h (by decide)
  · omega
/-- The squares of the inverse's row i, the first m from the diagonal on. -/
def rowQ (g : Nat → Nat → Nat) (i m : Nat) : Rat := sumR (fun s => fv (wS g i (i + s)) * fv (wS g i (i + s))) m
theorem errs_law {f : Fct} {n : Nat} (hn : f.C = (n : Int)) (hE : errE f = 0) {i : Nat} (hi : i < n) :
    fin (errF f n i) ∧ flt (errF f n i) 0 = false ∧ ab (fv (errF f n i) * fv (errF f n i) - fv (stVar f) * rowQ (gS f) i (n - i)) ≤ fv (stVar f) * rowQ (gS f) i (n - i) * ((n + 10 : Nat) : Rat) * pw (-53) + pw (-2040) := by
  obtain ⟨h1, h2, h3⟩ := errE_ok hn hE
  obtain ⟨hok, hfree⟩ := st_free h1
  obtain ⟨_, hw, hd⟩ := invE_nw h2 hn
  have hcl := check_len (show checkS f.C f.xs f.R f.T = true from hok)
  have hn6 : 1 ≤ n ∧ n ≤ 6 := by omega
  have hf : fin (errF f n i) := errW_no h3 i hi
  obtain ⟨v1, v2, v3⟩ := spread_law hok hfree
  have hsp : spV f = sqrtF (stVar f) := by unfold spV; rw [if_pos h1]
  unfold errF at hf ⊢
  rw [hsp] at hf ⊢
  obtain ⟨fS, fZ⟩ := mul_fin hf
  rw [arS_fmul fS fZ] at hf ⊢
  have hx : ∀ s, s < n - i → fin (wS (gS f) i (i + s)) := fun s hs => hw i (i + s) (by omega) (by omega)
  obtain ⟨R2, s, T, K2, k1, k2, k3, k4, k5, k6, k7, k8, k9, k10, k11, k12⟩ := size_law (x := fun s => wS (gS f) i (i + s)) (m := n - i) (by omega) (by omega) hx (diag_ge h2 hn hi) fZ
  obtain ⟨_, _, _, sS⟩ := sqrt_ok v1 v2
  refine ⟨hf, flt_nn (fmul_sg fS fZ sS k11), ?_⟩
  have hp := pw_pos (-2040)
  change rowQ (gS f) i (n - i) = T * K2 at k6
  change fv (szF f n i) * fv (szF f n i) = R2 * K2 at k5
  change pw (-424) ≤ fv (szF f n i) at k12
  have hn10 : ((n + 10 : Nat) : Rat) = (n : Rat) + 10 := by rw [Rat.natCast_add]; rfl
  have hnr : (n : Rat) ≤ 6 := by have := cast_le.2 hn6.2; exact this
  rw [k6, hn10, uu_eq]
  have hV0 := fv_nonneg v2
  by_cases hv0 : rg (stVar f) = 0
  · have hVz : fv (stVar f) = 0 := fv_of_rg0 hv0
    have e : sqrtF (stVar f) = D.word (sg (stVar f)) 0 := by unfold sqrtF; rw [sqrt_zero hv0]; rfl
    have hz : fv (sqrtF (stVar f)) = 0 := by rw [e, fv_word (by decide), rm_zero]; cases sg (stVar f) <;> simp [sv]
    have hL := fmul_err_big fS fZ hf (.inl (by rw [hz, Rat.zero_mul]))
    rw [hz, Rat.zero_mul, ab_zero, Rat.mul_zero, show ∀ y : Rat, y - 0 = y from fun y => by grind] at hL
    have hL0 : fv (fmul (sqrtF (stVar f)) (szF f n i)) = 0 := ab_eq_zero (Rat.le_antisymm hL (ab_nonneg _))
    rw [hL0, hVz, Rat.zero_mul, Rat.zero_mul, Rat.zero_mul, show (0 : Rat) - 0 = 0 from by grind, ab_zero]
    grind
  · obtain ⟨q0, q1, q2⟩ := sqrt_err v1 v2 hv0
    obtain ⟨r1, r2⟩ := rt_lo (sq_nonneg _) hV0 q1 q2
    have hVb : pw (-1074) ≤ fv (stVar f) := by
      have := pos_ge hv0
      rwa [ab_of hV0] at this
    have hSb := root_big q0 hVb q2
    have hZ0 : 0 ≤ fv (szF f n i) := Rat.le_trans (Rat.le_of_lt (pw_pos _)) k12
    have hSZ0 : 0 ≤ fv (sqrtF (stVar f)) * fv (szF f n i) := Rat.mul_nonneg q0 hZ0
    have hSZ : pw (-1022) ≤ ab (fv (sqrtF (stVar f)) * fv (szF f n i)) := by
      rw [ab_of hSZ0]
      have a1 := Rat.mul_le_mul_of_nonneg_right hSb hZ0
      have a2 := Rat.mul_le_mul_of_nonneg_left k12 (Rat.le_of_lt (pw_pos (-538)))
      rw [← pw_add] at a2
      exact Rat.le_trans (pw_le (by decide)) (Rat.le_trans a2 a1)
    have hL := fmul_err_big fS fZ hf (.inr hSZ)
    rw [ab_of hSZ0, uu_eq] at hL
    obtain ⟨l1, l2⟩ := sq_two hL hSZ0 rfl
    have e1 : fv (sqrtF (stVar f)) * fv (szF f n i) * (fv (sqrtF (stVar f)) * fv (szF f n i)) = fv (sqrtF (stVar f)) * fv (sqrtF (stVar f)) * (R2 * K2) := by rw [← k5]; grind
    rw [e1] at l1 l2
    have hmn : ((n - i : Nat) : Rat) ≤ (n : Rat) := cast_le.2 (by omega)
    have hm1 : (1 : Rat) ≤ ((n - i : Nat) : Rat) := by have := cast_le.2 (show 1 ≤ n - i by omega); exact this
    obtain ⟨n1, n2⟩ := err_num hm1 hmn hnr
    have key := spread_ch hV0 (Rat.le_trans (by decide) k3) k4 k2 k1 r1 r2 k7 k8 k9 k10 l1 l2 n1 n2
    rw [show fv (stVar f) * (T * K2) * ((n : Rat) + 10) * uu = fv (stVar f) * (T * K2) * (((n : Rat) + 10) * uu) from by grind]
    grind
end Lev
