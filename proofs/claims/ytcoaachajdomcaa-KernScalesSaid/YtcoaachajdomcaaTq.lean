/- KernScales in plain Lean. -/
import Derived.Test.YtcoaachajdomcaaTp
namespace Lev

theorem lat_fv {a : Nat} (h : Lat ((rm (rg a) : Rat) * pw (-1074))) : Lat (fv a) := h.sv _
theorem lat_rg {x : Nat} (h : inS x = true) : Lat (fv (rg x)) ∧ Lat (fv x) := by
  have key : Lat ((rm (rg x) : Rat) * pw (-1074)) := by
    unfold inS at h
    rw [decide_eq_true_eq] at h
    rcases h with h | h
    · rw [h, rm_zero, show ((0 : Nat) : Rat) = 0 from rfl, Rat.zero_mul]; exact Lat.zero
    · exact lat_big (by omega)
  exact ⟨lat_fv (by rw [rg_rg]; exact key), lat_fv key⟩
theorem lat_mul {a b : Nat} (ha : inS a = true) (hb : inS b = true) : Lat (fv (fmul a b)) := by
  obtain ⟨fa, _⟩ := inS_bd ha
  obtain ⟨fb, _⟩ := inS_bd hb
  obtain ⟨r, m1, m2⟩ := mul_spec fa fb
  have e : fmul a b = D.word (sg a ^^ sg b) r := by unfold fmul; rw [m1]; rfl
  rw [e]
  refine lat_fv ?_
  rw [rg_word _ _ m2.lt63]
  by_cases h0 : rg a = 0 ∨ rg b = 0
  · have hz : ab (fv a * fv b) = 0 := by
      rw [ab_mul, ab_fv, ab_fv]
      rcases h0 with h0 | h0 <;> rw [h0, rm_zero, show ((0 : Nat) : Rat) = 0 from rfl, Rat.zero_mul]
      · rw [Rat.zero_mul]
      · rw [Rat.mul_zero]
    rw [hz] at m2
    rw [m2.zero_eq, rm_zero, show ((0 : Nat) : Rat) = 0 from rfl, Rat.zero_mul]
    exact Lat.zero
  · have ga := inS_ge ha (fun hh => h0 (.inl hh))
    have gb := inS_ge hb (fun hh => h0 (.inr hh))
    have hp : pw (-800) ≤ ab (fv a * fv b) := by
      rw [ab_mul]
      have t1 := Rat.mul_le_mul_of_nonneg_right ga (Rat.le_trans (Rat.le_of_lt (pw_pos (-400))) gb)
      have t2 := Rat.mul_le_mul_of_nonneg_left gb (Rat.le_of_lt (pw_pos (-400)))
      rw [← pw_add] at t2
      exact Rat.le_trans t2 t1
    have hI := INF_eq
    have hx := IsRnd.exact (r := 222 * 4503599627370496 + 4503599627370496) (by omega)
    rw [rm_pow 222] at hx
    exact lat_big (hx.mono m2 hp)

/-- Scaled entry by entry. -/
structure Skl (xs : List Nat) (k : Int) (ls : List Nat) : Prop where
  len : ls.length = xs.length
  each : ∀ i, i < xs.length → Sk (ge xs i) k (ge ls i)

theorem dot_scale {xs ls ys : List Nat} {k : Int} (h : Skl xs k ls) (hx : fitS xs ys = true) (hl : fitS ls ys = true) (hn : xs.length ≤ 40) : Sk (dotF xs ys) k (dotF ls ys) := by
  obtain ⟨e1, a1, a2⟩ := fitS_iff.1 hx
  obtain ⟨_, a3, _⟩ := fitS_iff.1 hl
  unfold dotF
  rw [if_pos hx, if_pos hl, h.len]
  refine (sk_sum (t := dotT xs ys) (u := dotT ls ys) (E := 800) (by decide) (by decide) xs.length (by omega) (fun i hi => ?_)).1
  have hi2 : i < ls.length := by rw [h.len]; exact hi
  have b1 := allIn_get a1 hi
  have b2 := allIn_get a2 (k := i) (by omega)
  have b3 := allIn_get a3 hi2
  exact ⟨sk_mul (h.each i hi) b1 b3 b2, (dotT_bd hx hi).2, (dotT_bd hl hi2).2, lat_mul b1 b2, lat_mul b3 b2⟩

theorem sk_rg {x y : Nat} {k : Int} (h : Sk x k y) : Sk (rg x) k (rg y) :=
  ⟨by rw [sg_rg, sg_rg], Nat.lt_trans (rg_lt _) (by decide), Nat.lt_trans (rg_lt _) (by decide), fin_rg' h.fx, fin_rg' h.fy, by rw [rg_rg, rg_rg]; exact h.val⟩
theorem sum_scale {xs ls : List Nat} {k : Int} (h : Skl xs k ls) (hx : allIn xs = true) (hl : allIn ls = true) (hn : xs.length ≤ 40) : Sk (sumF xs) k (sumF ls) := by
  unfold sumF
  rw [if_pos hx, if_pos hl, h.len]
  refine (sk_sum (t := absT xs) (u := absT ls) (E := 400) (by decide) (by decide) xs.length (by omega) (fun i hi => ?_)).1
  have hi2 : i < ls.length := by rw [h.len]; exact hi
  exact ⟨sk_rg (h.each i hi), (absT_bd hx hi).2, (absT_bd hl hi2).2, (lat_rg (allIn_get hx hi)).1, (lat_rg (allIn_get hl hi2)).1⟩

theorem sumT_congr {t u : Nat → Nat} : ∀ n : Nat, (∀ i, i < n → t i = u i) → sumT t n = sumT u n := by
  intro n
  induction n with
  | zero => intro _; rfl
  | succ n ih =>
    intro h
    show fadd (sumT t n) (t n) = fadd (sumT u n) (u n)
    rw [ih (fun i hi => h i (by omega)), h n (by omega)]

theorem Sk.mono {x y x' y' : Nat} {k : Int} (h : Sk x k y) (h' : Sk x' k y') (hle : rg x ≤ rg x') : rg y ≤ rg y' := by
  have h1 := Rat.mul_le_mul_of_nonneg_right (unit_le.2 (rm_mono hle)) (Rat.le_of_lt (pw_pos k))
  rw [← h.val, ← h'.val] at h1
  exact rm_le_iff.1 (unit_le.1 h1)
theorem Sk.top {x y : Nat} {k : Int} (h : Sk x k y) (h0 : rg x ≠ 0) : topS y = topS x + k := by
  have hy0 : rg y ≠ 0 := fun hh => h0 (h.zero.2 hh)
  have a1 := val_ge h0
  have a2 := val_lt h0
  have b1 := val_ge hy0
  have b2 := val_lt hy0
  rw [h.ab] at b1 b2
  have c1 := Rat.mul_le_mul_of_nonneg_right a1 (Rat.le_of_lt (pw_pos k))
  have c2 := Rat.mul_lt_mul_of_pos_right a2 (pw_pos k)
  rw [← pw_add] at c1 c2
  have d1 : pw (topS x + k) < pw (topS y + 1) := by grind
  have d2 : pw (topS y) < pw (topS x + 1 + k) := by grind
  have e1 : topS x + k < topS y + 1 := by
    rcases Int.lt_or_le (topS x + k) (topS y + 1) with h | h
    · exact h
    · exact absurd (pw_le h) (by grind)
  have e2 : topS y < topS x + 1 + k := by
    rcases Int.lt_or_le (topS y) (topS x + 1 + k) with h | h
    · exact h
    · exact absurd (pw_le h) (by grind)
  omega

/-- The root of the sum of the squares, scaled, is 1 at least. -/
theorem root_range {xs : List Nat} (h : allIn xs = true) (hl : xs.length ≤ 40) (h0 : mostT xs xs.length ≠ 0) :
    pw 0 ≤ ab (fv (sqrtF (sumT (sqT xs (normK xs)) xs.length))) ∧ ab (fv (sqrtF (sumT (sqT xs (normK xs)) xs.length))) ≤ pw 10 := by
  obtain ⟨i, hi, hm⟩ := (most_at (xs := xs) xs.length (Nat.le_refl _)).resolve_left h0
  have hK : normK xs = topS (ge xs i) := by unfold normK; rw [← hm, topS_rg]
  have hns := norm_sum h h0 (by omega)
  have hx0 : rg (ge xs i) ≠ 0 := by rw [hm]; exact h0
  have hnt := fun j (hj : j < xs.length) => norm_terms h h0 hj
  obtain ⟨t1, t2⟩ := top_scaled hx0 (hnt i hi).1
  have hfr := fracS_lt hx0
  have hy : scT xs (normK xs) i = ldS (ge xs i) (-topS (ge xs i)) := by unfold scT; rw [hK]
  have hroot := sqrt_sq (y := scT xs (normK xs) i) (by rw [hy, t1]; omega) (by rw [hy, t1]; omega)
  have hge := sumT_ge (t := sqT xs (normK xs)) (E := 2) (by decide) (by decide) xs.length (by omega) (fun j hj => ⟨(hnt j hj).2.2.2.1, (hnt j hj).2.2.2.2.1, (hnt j hj).2.2.2.2.2.1⟩) i hi
  have hmono := sqrtF_mono (hnt i hi).2.2.2.1 hns.1 (hnt i hi).2.2.2.2.2.1 hns.2.1 hge
  have e2 : sqrtF (sqT xs (normK xs) i) = rg (scT xs (normK xs) i) := hroot
  rw [e2, rg_rg, hy, t1] at hmono
  constructor
  · have h1 := unit_le.2 (rm_mono (Nat.le_trans (Nat.le_add_right _ _) hmono))
    rw [show 4607182418800017408 = 1022 * 4503599627370496 + 4503599627370496 from by decide, rm_pow 1022] at h1
    rw [ab_fv]
    exact h1
  · have h3 : fin 4697254411347427328 := by decide
    have h4 : sg 4697254411347427328 = false := by decide
    have h5 : rg (sumT (sqT xs (normK xs)) xs.length) ≤ rg 4697254411347427328 := by
      have h6 := hns.2.2
      rw [ab_fv] at h6
      have h7 : pw 20 = (rm 4697254411347427328 : Rat) * pw (-1074) := by
        rw [show 4697254411347427328 = 1042 * 4503599627370496 + 4503599627370496 from by decide, rm_pow 1042]; rfl
      rw [h7] at h6
      exact rm_le_iff.1 (unit_le.1 h6)
    have h8 := sqrtF_mono hns.1 h3 hns.2.1 h4 h5
    have h9 : rg (sqrtF 4697254411347427328) = 4652218415073722368 := by decide +kernel
    rw [h9] at h8
    have h1 := unit_le.2 (rm_mono h8)
    rw [show 4652218415073722368 = 1032 * 4503599627370496 + 4503599627370496 from by decide, rm_pow 1032] at h1
    rw [ab_fv]
    exact h1

theorem norm_scale {xs ls : List Nat} {k : Int} (h : Skl xs k ls) (hx : allIn xs = true) (hl : allIn ls = true) (hn : xs.length ≤ 40) : Sk (normF xs) k (normF ls) := by
  by_cases h0 : mostT xs xs.length = 0
  · have hz : mostT ls ls.length = 0 := by
      rcases most_at (xs := ls) ls.length (Nat.le_refl _) with h1 | ⟨i, hi, h1⟩
      · exact h1
      · rw [h.len] at hi
        have h2 := mostT_le (xs := xs) hi
        have h3 := (h.each i hi).zero.1 (by omega)
        omega
    have e1 : normF xs = 0 := by unfold normF; rw [if_neg (by simp [h0])]
    have e2 : normF ls = 0 := by unfold normF; rw [if_neg (by simp [hz])]
    rw [e1, e2]
    have := zero_sk (s := false) (k := k)
    rwa [word_false] at this
  · obtain ⟨i, hi, hm⟩ := (most_at (xs := xs) xs.length (Nat.le_refl _)).resolve_left h0
    have hx0 : rg (ge xs i) ≠ 0 := by rw [hm]; exact h0
    have hl0 : rg (ge ls i) ≠ 0 := fun hh => hx0 ((h.each i hi).zero.2 hh)
    have hli : i < ls.length := by rw [h.len]; exact hi
    have hmi := mostT_le (xs := ls) hli
    have hz : mostT ls ls.length ≠ 0 := by omega
    have hml : mostT ls ls.length = rg (ge ls i) := by
      obtain ⟨j, hj, h1⟩ := (most_at (xs := ls) ls.length (Nat.le_refl _)).resolve_left hz
      rw [h.len] at hj
      have h2 := (h.each j hj).mono (h.each i hi) (by rw [hm]; exact mostT_le hj)
      omega
    have hK : normK ls = normK xs + k := by
      unfold normK
      rw [hml, ← hm, topS_rg, topS_rg]
      exact (h.each i hi).top hx0
    have hsc : ∀ j, j < xs.length → sqT xs (normK xs) j = sqT ls (normK ls) j := fun j hj => by
      have e : scT xs (normK xs) j = scT ls (normK ls) j := by
        unfold scT ldS
        rw [(h.each j hj).sign, (h.each j hj).ab, hK, Rat.mul_assoc, ← pw_add, show k + -(normK xs + k) = -normK xs from by omega]
      unfold sqT
      rw [e]
    have hsum := sumT_congr xs.length hsc
    have e1 : normF xs = ldS (sqrtF (sumT (sqT xs (normK xs)) xs.length)) (normK xs) := by unfold normF; rw [if_pos ⟨hx, h0⟩]
    have e2 : normF ls = ldS (sqrtF (sumT (sqT xs (normK xs)) xs.length)) (normK xs + k) := by unfold normF; rw [if_pos ⟨hl, hz⟩, hK, h.len, ← hK, ← hsum]
    obtain ⟨r1, r2⟩ := root_range hx hn h0
    have k1 : -400 ≤ normK xs ∧ normK xs ≤ 400 := by
      have q := mostT_in hx xs.length (Nat.le_refl _)
      exact topS_lo400 (m := mostT xs xs.length) (by rw [rg_small (by omega)]; omega) (by rw [rg_small (by omega)]; omega)
    have k2 : -400 ≤ normK ls ∧ normK ls ≤ 400 := by
      have q := mostT_in hl ls.length (Nat.le_refl _)
      exact topS_lo400 (m := mostT ls ls.length) (by rw [rg_small (by omega)]; omega) (by rw [rg_small (by omega)]; omega)
    rw [hK] at k2
    rw [e1, e2]
    generalize sqrtF (sumT (sqT xs (normK xs)) xs.length) = S at *
    have hs1 := rr_spec (mul_pw_nonneg S (normK xs))
    have hs2 := rr_spec (mul_pw_nonneg S (normK xs + k))
    have hv : ab (fv S) * pw (normK xs + k) = ab (fv S) * pw (normK xs) * pw k := by rw [pw_add, ← Rat.mul_assoc]
    have rng : ∀ K : Int, -400 ≤ K → K ≤ 400 → pw (-900) ≤ ab (fv S) * pw K ∧ ab (fv S) * pw K ≤ pw 900 := fun K c1 c2 => by
      have t1 := Rat.mul_le_mul_of_nonneg_right r1 (Rat.le_of_lt (pw_pos K))
      have t2 := Rat.mul_le_mul_of_nonneg_right r2 (Rat.le_of_lt (pw_pos K))
      rw [← pw_add] at t1 t2
      exact ⟨Rat.le_trans (pw_le (by omega)) t1, Rat.le_trans t2 (pw_le (by omega))⟩
    obtain ⟨u1, u2⟩ := rng _ k1.1 k1.2
    obtain ⟨u3, u4⟩ := rng _ k2.1 k2.2
    unfold ldS
    rw [hv] at hs2 u3 u4 ⊢
    exact rnd_sk hs1 hs2 (.inr ⟨u1, u2, u3, u4⟩)

end Lev
