/- Plain texts, laid as one. -/
import Derived.Test.YtigacobphgeeaaaF9
import Derived.Test.YtigacobphgeeaaaB9
/- Triangles that are packed row by row: whether a factor may be, in plain numbers and lists. -/
namespace Lev

/-- Is a float a number, and not too large? -/
def small (x : Nat) : Bool := decide (rg x ≤ 6498694262295625728)

/-- Where row k begins, of N rows, the first of N entries. -/
def st (N : Nat) : Nat → Nat
  | 0 => 0
  | k + 1 => st N k + (N - k)

def sizeI (cols : Int) : Int := if cols < 1 ∨ 6 < cols then 0 else (cols + 1) * (cols + 2) / 2

/-- Is row k as it may be? -/
def rowOk (N : Nat) (xs : List Nat) (k : Nat) : Bool := !sg (xs[st N k]?.getD 0) && ((xs.drop (st N k)).take (N - k)).all small
def rowsOk (N : Nat) (xs : List Nat) : Bool := (List.range N).all (rowOk N xs)
def headOk (C : Int) (n : Nat) (R T : Int) : Bool := decide (1 ≤ C ∧ C ≤ 6 ∧ (n : Int) = sizeI C ∧ 0 ≤ R ∧ R ≤ 200 ∧ 0 ≤ T ∧ T ≤ 4096)
/-- May a factor be? -/
def checkS (C : Int) (xs : List Nat) (R T : Int) : Bool := headOk C xs.length R T && rowsOk (C + 1).toNat xs

theorem st_le {N : Nat} : ∀ {k m : Nat}, k ≤ m → st N k ≤ st N m := by
  intro k m h
  induction m with
  | zero => have : k = 0 := by omega
            subst this; exact Nat.le_refl _
  | succ m ih =>
    by_cases hk : k = m + 1
    · subst hk; exact Nat.le_refl _
    · have := ih (by omega)
      simp only [st]; omega
theorem st_succ (N k : Nat) : st N (k + 1) = st N k + (N - k) := rfl
theorem st_twice (N : Nat) : ∀ k, k ≤ N → 2 * st N k + k * k = 2 * (k * N) + k := by
  intro k hk
  induction k with
  | zero => simp [st]
  | succ k ih =>
    have h1 := ih (by omega)
    rw [st_succ, Nat.mul_add]
    have h2 : (k + 1) * (k + 1) = k * k + 2 * k + 1 := by rw [Nat.add_mul, Nat.mul_add]; omega
    have h3 : (k + 1) * N = k * N + N := by rw [Nat.add_mul, Nat.one_mul]
    rw [h2, h3]
    omega
theorem st_all (N : Nat) : 2 * st N N = N * N + N := by have := st_twice N N (Nat.le_refl N); omega
/-- Each place lies in a row. -/
theorem st_find {N j : Nat} : ∀ m, j < st N m → ∃ k, k < m ∧ st N k ≤ j ∧ j < st N (k + 1) := by
  intro m
  induction m with
  | zero => intro h; simp [st] at h
  | succ m ih =>
    intro h
    by_cases h1 : j < st N m
    · obtain ⟨k, hk, h2⟩ := ih h1
      exact ⟨k, by omega, h2⟩
    · exact ⟨m, by omega, by omega, h⟩

theorem size_st {C : Int} {N : Nat} (h1 : 1 ≤ C) (h2 : C ≤ 6) (hN : (N : Int) = C + 1) : sizeI C = (st N N : Int) := by
  have := st_all N
  unfold sizeI
  rw [if_neg (by omega)]
  rcases (by omega : C = 1 ∨ C = 2 ∨ C = 3 ∨ C = 4 ∨ C = 5 ∨ C = 6) with h | h | h | h | h | h
  all_goals
    subst h
    obtain rfl : N = _ := by first | exact (by omega : N = 2) | exact (by omega : N = 3) | exact (by omega : N = 4) | exact (by omega : N = 5) | exact (by omega : N = 6) | exact (by omega : N = 7)
    decide

theorem row_mem {N k j : Nat} {xs : List Nat} : (xs[st N k + j]?.getD 0 ∈ (xs.drop (st N k)).take (N - k)) ∨ ¬ (j < N - k ∧ st N k + j < xs.length) := by
  by_cases h : j < N - k ∧ st N k + j < xs.length
  · left
    obtain ⟨h1, h2⟩ := h
    have e : xs[st N k + j]?.getD 0 = xs[st N k + j] := by rw [List.getElem?_eq_getElem h2]; rfl
    rw [e, List.mem_iff_getElem]
    refine ⟨j, by simp; omega, ?_⟩
    simp
  · exact .inr h

theorem rowsOk_iff {N : Nat} {xs : List Nat} (hl : xs.length = st N N) : rowsOk N xs = true ↔ (∀ j, j < xs.length → small (xs[j]?.getD 0) = true) ∧ (∀ i, i < N → sg (xs[st N i]?.getD 0) = false) := by
  unfold rowsOk
  rw [List.all_eq_true]
  constructor
  · intro h
    refine ⟨fun j hj => ?_, fun i hi => ?_⟩
    · rw [hl] at hj
      obtain ⟨k, hk, h1, h2⟩ := st_find N hj
      have h3 := h k (List.mem_range.2 hk)
      unfold rowOk at h3
      rw [Bool.and_eq_true, List.all_eq_true] at h3
      rw [st_succ] at h2
      obtain ⟨d, rfl⟩ : ∃ d, j = st N k + d := ⟨j - st N k, by omega⟩
      rcases row_mem (N := N) (k := k) (j := d) (xs := xs) with h4 | h4
      · exact h3.2 _ h4
      · exact absurd ⟨by omega, by omega⟩ h4
    · have h3 := h i (List.mem_range.2 hi)
      unfold rowOk at h3
      rw [Bool.and_eq_true] at h3
      simpa using h3.1
  · rintro ⟨h1, h2⟩ k hk
    rw [List.mem_range] at hk
    unfold rowOk
    rw [Bool.and_eq_true, List.all_eq_true]
    refine ⟨by rw [h2 k hk]; rfl, fun x hx => ?_⟩
    rw [List.mem_iff_getElem] at hx
    obtain ⟨j, hj, rfl⟩ := hx
    simp at hj
    have hj2 : st N k + j < xs.length := by omega
    have h4 := h1 (st N k + j) hj2
    rw [List.getElem?_eq_getElem hj2] at h4
    simpa using h4

theorem small_fin {x : Nat} (h : small x = true) : fin x := by
  unfold small at h
  rw [decide_eq_true_eq] at h
  unfold fin; have := INF_eq; omega

end Lev

/- Fading: what it comes to, in plain numbers and lists. -/
namespace Lev
open Ieee

/-- May a number fade? -/
def mayS (b : Nat) : Bool := fle 4517110426252607488 b && fle b 4607182418800017408
def fmul (x b : Nat) : Nat := (D.mul x b).getD 0
def fadeL (b : Nat) (xs : List Nat) : List Nat := xs.map (fun x => fmul x b)

theorem may_facts {b : Nat} (h : mayS b = true) : fin b ∧ sg b = false ∧ 4517110426252607488 ≤ rg b ∧ rg b ≤ 4607182418800017408 := by
  have hI := INF_eq
  unfold mayS fle at h
  rw [Bool.and_eq_true, decide_eq_true_eq, decide_eq_true_eq] at h
  have e1 : ord 4517110426252607488 = 4517110426252607488 := by decide
  have e2 : ord 4607182418800017408 = 4607182418800017408 := by decide
  rw [e1, e2] at h
  unfold ord at h
  cases hs : sg b
  · rw [hs] at h; simp at h
    exact ⟨by unfold fin; omega, rfl, by omega, by omega⟩
  · rw [hs] at h; simp at h
    exfalso; omega

theorem fv_one : fv 4607182418800017408 = 1 := by rw [c0, pw_zero]
theorem may_le {b : Nat} (h : mayS b = true) : 0 ≤ fv b ∧ fv b ≤ 1 := by
  obtain ⟨hf, hs, h1, h2⟩ := may_facts h
  have hn : fv b = (rm (rg b) : Rat) * pw (-1074) := by unfold fv; rw [hs]; rfl
  constructor
  · rw [hn]; exact Rat.mul_nonneg Rat.natCast_nonneg (Rat.le_of_lt (pw_pos _))
  · rw [← fv_one, fv_le]
    unfold ord
    rw [hs]
    have : sg 4607182418800017408 = false := by decide
    rw [this]
    have : rg 4607182418800017408 = 4607182418800017408 := by decide
    rw [this]
    simp; omega

/-- What is faded: its bits, its sign, its size. -/
theorem fmul_spec {x b : Nat} (hx : fin x) (hb : mayS b = true) : ∃ r, D.mul x b = some (D.word (sg x) r) ∧ fmul x b = D.word (sg x) r ∧ r ≤ rg x ∧ IsRnd (ab (fv x * fv b)) r := by
  obtain ⟨hf, hs, _, _⟩ := may_facts hb
  obtain ⟨h0, h1⟩ := may_le hb
  obtain ⟨r, hr1, hr2⟩ := mul_spec hx hf
  rw [hs, Bool.xor_false] at hr1
  refine ⟨r, hr1, by unfold fmul; rw [hr1]; rfl, ?_, hr2⟩
  have h2 : IsRnd (ab (fv x)) (rg x) := by rw [ab_fv]; exact IsRnd.exact hx
  refine hr2.mono h2 ?_
  rw [ab_mul]
  have h3 : ab (fv b) = fv b := by unfold ab; rw [if_neg (by grind)]
  rw [h3]
  have := Rat.mul_le_mul_of_nonneg_left h1 (ab_nonneg (fv x))
  grind
theorem fmul_facts {x b : Nat} (hx : fin x) (hb : mayS b = true) : sg (fmul x b) = sg x ∧ rg (fmul x b) ≤ rg x ∧ fmul x b < 18446744073709551616 := by
  obtain ⟨r, _, h2, h3, _⟩ := fmul_spec hx hb
  have h4 : r < 9223372036854775808 := Nat.lt_of_le_of_lt h3 (rg_lt x)
  rw [h2]
  exact ⟨sg_word _ _ h4, by rw [rg_word _ _ h4]; exact h3, word_lt64 _ _ h4⟩
theorem fmul_small {x b : Nat} (hx : small x = true) (hb : mayS b = true) : small (fmul x b) = true := by
  obtain ⟨_, h, _⟩ := fmul_facts (small_fin hx) hb
  unfold small at hx ⊢
  rw [decide_eq_true_eq] at hx ⊢
  omega

theorem fadeL_length (b : Nat) (xs : List Nat) : (fadeL b xs).length = xs.length := List.length_map _
theorem fadeL_get {b j : Nat} {xs : List Nat} (hj : j < xs.length) : (fadeL b xs)[j]?.getD 0 = fmul (xs[j]?.getD 0) b := by
  unfold fadeL
  rw [List.getElem?_map, List.getElem?_eq_getElem hj]; rfl

theorem check_len {C : Int} {xs : List Nat} {R T : Int} (h : checkS C xs R T = true) : 1 ≤ C ∧ C ≤ 6 ∧ xs.length = st (C + 1).toNat (C + 1).toNat ∧ 0 ≤ R ∧ R ≤ 200 ∧ 0 ≤ T ∧ T ≤ 4096 ∧ xs.length ≤ 28 ∧ rowsOk (C + 1).toNat xs = true := by
  unfold checkS headOk at h
  rw [Bool.and_eq_true, decide_eq_true_eq] at h
  obtain ⟨⟨h1, h2, h3, h4, h5, h6, h7⟩, h8⟩ := h
  have h9 := size_st (N := (C + 1).toNat) h1 h2 (by omega)
  have h10 : xs.length = st (C + 1).toNat (C + 1).toNat := by omega
  refine ⟨h1, h2, h10, h4, h5, h6, h7, ?_, h8⟩
  have := st_all (C + 1).toNat
  have h3 : (C + 1).toNat ≤ 7 := by omega
  have := Nat.mul_le_mul h3 h3
  omega
theorem check_small {C : Int} {xs : List Nat} {R T : Int} (h : checkS C xs R T = true) {j : Nat} (hj : j < xs.length) : small (xs[j]?.getD 0) = true :=
  ((rowsOk_iff (check_len h).2.2.1).1 (check_len h).2.2.2.2.2.2.2.2).1 j hj
theorem check_small' {C : Int} {xs : List Nat} {R T : Int} (h : checkS C xs R T = true) {x : Nat} (hx : x ∈ xs) : small x = true := by
  rw [List.mem_iff_getElem] at hx
  obtain ⟨j, hj, rfl⟩ := hx
  have := check_small h hj
  rw [List.getElem?_eq_getElem hj] at this
  exact this

/-- What may be and is faded may be. -/
theorem fade_check {C : Int} {xs : List Nat} {R T T' : Int} {b : Nat} (h : checkS C xs R T = true) (hb : mayS b = true) (hT : 0 ≤ T') (hT2 : T' ≤ 4096) : checkS C (fadeL b xs) R T' = true := by
  obtain ⟨h1, h2, h3, h4, h5, h6, h7, _, h8⟩ := check_len h
  have h9 := size_st (N := (C + 1).toNat) h1 h2 (by omega)
  have hl := fadeL_length b xs
  obtain ⟨k1, k2⟩ := (rowsOk_iff h3).1 h8
  unfold checkS headOk
  rw [Bool.and_eq_true, decide_eq_true_eq, hl]
  refine ⟨⟨h1, h2, by omega, h4, h5, hT, hT2⟩, (rowsOk_iff (by rw [hl]; exact h3)).2 ⟨fun j hj => ?_, fun i hi => ?_⟩⟩
  · rw [hl] at hj
    rw [fadeL_get hj]; exact fmul_small (k1 j hj) hb
  · have hlt : st (C + 1).toNat i < xs.length := by
      have a1 := st_le (N := (C + 1).toNat) (k := i + 1) (m := (C + 1).toNat) (by omega)
      have a2 := st_succ (C + 1).toNat i
      omega
    rw [fadeL_get hlt, (fmul_facts (small_fin (k1 _ hlt)) hb).1]
    exact k2 i hi

/-- Faded again and again. -/
def fadeN (b : Nat) : Nat → List Nat → List Nat
  | 0, xs => xs
  | k + 1, xs => fadeL b (fadeN b k xs)
theorem fadeN_length (b k : Nat) (xs : List Nat) : (fadeN b k xs).length = xs.length := by
  induction k with
  | zero => rfl
  | succ k ih => unfold fadeN; rw [fadeL_length, ih]
theorem fadeN_small {b k : Nat} {xs : List Nat} (hb : mayS b = true) (h : ∀ x ∈ xs, small x = true) : ∀ x ∈ fadeN b k xs, small x = true := by
  induction k with
  | zero => exact h
  | succ k ih =>
    intro x hx
    unfold fadeN fadeL at hx
    rw [List.mem_map] at hx
    obtain ⟨y, hy, rfl⟩ := hx
    exact fmul_small (ih y hy) hb

/-- A factor. -/
structure Fct where
  C : Int
  xs : List Nat
  R : Int
  T : Int
def Fct.zero : Fct := ⟨0, [], 0, 0⟩
def Fct.ok (f : Fct) : Bool := checkS f.C f.xs f.R f.T

/-- What fade.Often answers. -/
def oftenE (f : Fct) (b : Nat) (k : Int) : Int := if f.ok = false ∨ k < 0 then 1 else if mayS b = false then 12 else if 4096 - f.T < k then 6 else 0
def oftenF (f : Fct) (b : Nat) (k : Int) : Fct := if oftenE f b k = 0 then ⟨f.C, fadeN b k.toNat f.xs, f.R, f.T + k⟩ else Fct.zero

theorem oftenE_ok {f : Fct} {b : Nat} {k : Int} : oftenE f b k = 0 ↔ f.ok = true ∧ 0 ≤ k ∧ mayS b = true ∧ k ≤ 4096 - f.T := by
  unfold oftenE
  constructor
  · intro h
    by_cases h1 : f.ok = false ∨ k < 0
    · rw [if_pos h1] at h; omega
    · rw [if_neg h1] at h
      by_cases h2 : mayS b = false
      · rw [if_pos h2] at h; omega
      · rw [if_neg h2] at h
        by_cases h3 : 4096 - f.T < k
        · rw [if_pos h3] at h; omega
        · refine ⟨?_, by omega, by simpa using h2, by omega⟩
          cases hf : f.ok
          · exact absurd (.inl hf) h1
          · rfl
  · rintro ⟨h1, h2, h3, h4⟩
    rw [if_neg (by rw [h1]; simp; omega), if_neg (by rw [h3]; decide), if_neg (by omega)]

theorem oftenF_len (f : Fct) (b : Nat) (k : Int) : (oftenF f b k).xs.length ≤ f.xs.length := by
  unfold oftenF
  split
  · show (fadeN b k.toNat f.xs).length ≤ _
    rw [fadeN_length]; exact Nat.le_refl _
  · exact Nat.zero_le _

end Lev

/- Places, entries, rows of a triangle, and a row set, in plain numbers and lists. -/
namespace Lev

def atB (C i j : Int) : Bool := decide (1 ≤ C ∧ C ≤ 6 ∧ 0 ≤ i ∧ i ≤ j ∧ j ≤ C)
/-- The place of an entry. -/
def atI (C i j : Int) : Int := if atB C i j = true then (st (C + 1).toNat i.toNat : Int) + (j - i) else 0
/-- What is got. -/
def getS (f : Fct) (i j : Int) : Nat := if atB f.C i j && f.ok then f.xs[(atI f.C i j).toNat]?.getD 0 else 0
def hasS (f : Fct) (i : Int) : Bool := f.ok && decide (0 ≤ i ∧ i ≤ f.C)
/-- A row. -/
def lineS (f : Fct) (i : Int) : List Nat := if hasS f i = true then List.replicate i.toNat 0 ++ (f.xs.drop (st (f.C + 1).toNat i.toNat)).take ((f.C + 1).toNat - i.toNat) else []
/-- A new one. -/
def newS (C : Int) : Fct := if sizeI C = 0 then Fct.zero else ⟨C, List.replicate (sizeI C).toNat 0, 0, 0⟩
def newE (C : Int) : Int := if sizeI C = 0 then 1 else 0
/-- Entry p behind the setting of row i. -/
def setP (N i : Nat) (l xs : List Nat) (p : Nat) : Nat := if st N i ≤ p ∧ p < st N (i + 1) then l[i + (p - st N i)]?.getD 0 else xs[p]?.getD 0
def setL (N i : Nat) (l xs : List Nat) : List Nat := (List.range xs.length).map (setP N i l xs)
def setB (f : Fct) (i : Int) (l : List Nat) : Bool := hasS f i && decide ((l.length : Int) = f.C + 1) && checkS f.C (setL (f.C + 1).toNat i.toNat l f.xs) f.R f.T
def setF (f : Fct) (i : Int) (l : List Nat) : Fct := if setB f i l = true then ⟨f.C, setL (f.C + 1).toNat i.toNat l f.xs, f.R, f.T⟩ else Fct.zero

theorem map_get {n p : Nat} (h : p < n) (g : Nat → Nat) : ((List.range n).map g)[p]?.getD 0 = g p := by
  rw [List.getElem?_map, List.getElem?_range h]; rfl
theorem setL_length (N i : Nat) (l xs : List Nat) : (setL N i l xs).length = xs.length := by unfold setL; rw [List.length_map, List.length_range]
theorem setL_get {N i p : Nat} {l xs : List Nat} (h : p < xs.length) : (setL N i l xs)[p]?.getD 0 = setP N i l xs p := map_get h _

theorem list_ext {a b : List Nat} (h : a.length = b.length) (h2 : ∀ p, p < a.length → a[p]?.getD 0 = b[p]?.getD 0) : a = b := by
  refine List.ext_getElem h fun p h3 h4 => ?_
  have := h2 p h3
  rw [List.getElem?_eq_getElem h3, List.getElem?_eq_getElem h4] at this
  exact this

theorem atB_iff {C i j : Int} : atB C i j = true ↔ 1 ≤ C ∧ C ≤ 6 ∧ 0 ≤ i ∧ i ≤ j ∧ j ≤ C := by unfold atB; rw [decide_eq_true_eq]
theorem hasS_iff {f : Fct} {i : Int} : hasS f i = true ↔ f.ok = true ∧ 0 ≤ i ∧ i ≤ f.C := by unfold hasS; rw [Bool.and_eq_true, decide_eq_true_eq]

theorem st_mono {N k m : Nat} (h : k ≤ m) : st N k ≤ st N m := st_le h
/-- A place is below the end of its row. -/
theorem st_end {N i : Nat} (h : i < N) : st N (i + 1) ≤ st N N := st_le (by omega)
theorem st_in {N i d : Nat} (h : i < N) (hd : d < N - i) : st N i + d < st N N := by
  have h1 := st_end h; rw [st_succ] at h1; omega

theorem ok_len {f : Fct} (h : f.ok = true) : 1 ≤ f.C ∧ f.C ≤ 6 ∧ f.xs.length = st (f.C + 1).toNat (f.C + 1).toNat ∧ 0 ≤ f.R ∧ f.R ≤ 200 ∧ 0 ≤ f.T ∧ f.T ≤ 4096 ∧ f.xs.length ≤ 28 ∧ rowsOk (f.C + 1).toNat f.xs = true := check_len h

theorem lineS_length {f : Fct} {i : Int} (h : hasS f i = true) : (lineS f i).length = (f.C + 1).toNat := by
  unfold lineS
  rw [if_pos h]
  obtain ⟨h1, h2, h3⟩ := hasS_iff.1 h
  have h4 := (ok_len h1).2.2.1
  have h5 := st_end (N := (f.C + 1).toNat) (i := i.toNat) (by omega)
  rw [st_succ] at h5
  rw [List.length_append, List.length_replicate, List.length_take, List.length_drop]
  omega
theorem lineS_get {f : Fct} {i : Int} (h : hasS f i = true) {j : Nat} (hj : j < (f.C + 1).toNat) : (lineS f i)[j]?.getD 0 = getS f i j := by
  obtain ⟨h1, h2, h3⟩ := hasS_iff.1 h
  have hl := ok_len h1
  have h4 := hl.2.2.1
  have h5 := st_end (N := (f.C + 1).toNat) (i := i.toNat) (by omega)
  rw [st_succ] at h5
  unfold lineS getS
  rw [if_pos h, h1, Bool.and_true]
  by_cases hij : j < i.toNat
  · have hb : atB f.C i j = false := by unfold atB; rw [decide_eq_false_iff_not]; omega
    rw [hb, if_neg (by decide), List.getElem?_append_left (by rw [List.length_replicate]; exact hij), List.getElem?_replicate_of_lt hij]; rfl
  · have hb : atB f.C i j = true := atB_iff.2 (by omega)
    rw [hb, if_pos rfl]
    unfold atI
    rw [if_pos hb, List.getElem?_append_right (by rw [List.length_replicate]; omega), List.length_replicate, List.getElem?_take_of_lt (by omega), List.getElem?_drop]
    have e : ((st (f.C + 1).toNat i.toNat : Int) + ((j : Int) - i)).toNat = st (f.C + 1).toNat i.toNat + (j - i.toNat) := by omega
    rw [e]
/-- The row as the document's answer makes it. -/
theorem lineS_range {f : Fct} {i : Int} (h : hasS f i = true) : (List.range (f.C + 1).toNat).map (fun j : Nat => getS f i j) = lineS f i := by
  refine list_ext (by rw [List.length_map, List.length_range, lineS_length h]) fun p hp => ?_
  rw [List.length_map, List.length_range] at hp
  rw [map_get hp, lineS_get h hp]

theorem zero_small : small 0 = true := by decide +kernel
theorem zero_sg : sg 0 = false := by decide +kernel

/-- A new factor may be. -/
theorem new_check {C : Int} (h1 : 1 ≤ C) (h2 : C ≤ 6) : checkS C (List.replicate (sizeI C).toNat 0) 0 0 = true := by
  have h9 := size_st (N := (C + 1).toNat) h1 h2 (by omega)
  unfold checkS headOk
  rw [Bool.and_eq_true, decide_eq_true_eq, List.length_replicate]
  have hz : ∀ j, (List.replicate (sizeI C).toNat 0)[j]?.getD 0 = 0 := fun j => by
    rw [List.getElem?_replicate]; split <;> rfl
  refine ⟨⟨h1, h2, by omega, by omega, by omega, by omega, by omega⟩, (rowsOk_iff (by rw [List.length_replicate]; omega)).2 ⟨fun j _ => ?_, fun i _ => ?_⟩⟩
  · rw [hz]; exact zero_small
  · rw [hz]; exact zero_sg

theorem getS_lt {f : Fct} (hx : ∀ x ∈ f.xs, x < 18446744073709551616) (i j : Int) : getS f i j < 18446744073709551616 := by
  unfold getS
  split
  · cases h : f.xs[(atI f.C i j).toNat]? with
    | none => decide
    | some v => exact hx v (List.mem_of_getElem? h)
  · decide

/-- What is set is got, all else is as it was. -/
theorem set_get {f : Fct} {i : Int} {l : List Nat} (h : setB f i l = true) {row col : Int} (hr : 0 ≤ row) (hr2 : row ≤ f.C) (hc : 0 ≤ col) (hc2 : col ≤ f.C) :
    getS (setF f i l) row col = if row = i ∧ i ≤ col then l[col.toNat]?.getD 0 else getS f row col := by
  have h' := h
  unfold setB at h'
  rw [Bool.and_eq_true, Bool.and_eq_true, decide_eq_true_eq] at h'
  obtain ⟨⟨h1, h2⟩, h3⟩ := h'
  obtain ⟨h4, h5, h6⟩ := hasS_iff.1 h1
  have hl := ok_len h4
  have h7 := hl.2.2.1
  have hF : setF f i l = ⟨f.C, setL (f.C + 1).toNat i.toNat l f.xs, f.R, f.T⟩ := if_pos h
  have hok : (setF f i l).ok = true := by rw [hF]; exact h3
  unfold getS
  rw [hok, h4, Bool.and_true, Bool.and_true, hF]
  by_cases hrc : row ≤ col
  · have hb : atB f.C row col = true := atB_iff.2 (by omega)
    dsimp only
    rw [hb, if_pos rfl, if_pos rfl]
    have hat : (atI f.C row col).toNat = st (f.C + 1).toNat row.toNat + (col.toNat - row.toNat) := by
      unfold atI; rw [if_pos hb]; omega
    have hlt := st_in (N := (f.C + 1).toNat) (i := row.toNat) (d := col.toNat - row.toNat) (by omega) (by omega)
    rw [hat, setL_get (by omega)]
    unfold setP
    have hs1 := st_succ (f.C + 1).toNat i.toNat
    have hs2 := st_succ (f.C + 1).toNat row.toNat
    by_cases hri : row = i
    · subst hri
      rw [if_pos (by omega), if_pos (by omega)]
      congr 2; omega
    · rw [if_neg (c := row = i ∧ i ≤ col) (by omega)]
      have hne : ¬ (st (f.C + 1).toNat i.toNat ≤ st (f.C + 1).toNat row.toNat + (col.toNat - row.toNat) ∧ st (f.C + 1).toNat row.toNat + (col.toNat - row.toNat) < st (f.C + 1).toNat (i.toNat + 1)) := by
        rcases (by omega : row.toNat + 1 ≤ i.toNat ∨ i.toNat + 1 ≤ row.toNat) with h8 | h8
        · have := st_le (N := (f.C + 1).toNat) h8; omega
        · have := st_le (N := (f.C + 1).toNat) h8; omega
      rw [if_neg hne]
  · have hb : atB f.C row col = false := by unfold atB; rw [decide_eq_false_iff_not]; omega
    dsimp only
    rw [hb, if_neg (by decide), if_neg (by omega), if_neg (by decide)]

/-- The row that is set at step k. -/
def ixS (C half : Int) (k : Nat) : Nat := if 1 ≤ half ∧ half ≤ C then (k + half.toNat) % (C + 1).toNat else k
/-- What the lines come to, one behind the other. -/
def lnS (f : Fct) (half : Int) : Nat → List Nat
  | 0 => List.replicate (sizeI f.C).toNat 0
  | k + 1 => setL (f.C + 1).toNat (ixS f.C half k) (lineS f (ixS f.C half k)) (lnS f half k)
theorem ixS_lt {C half : Int} {k : Nat} (h1 : 1 ≤ C) (hk : (k : Int) ≤ C) : (ixS C half k : Int) ≤ C := by
  unfold ixS
  split
  · have := Nat.mod_lt (k + half.toNat) (show 0 < (C + 1).toNat by omega); omega
  · exact hk
theorem ixS_onto {C half : Int} {i : Nat} (h1 : 1 ≤ C) (hi : (i : Int) ≤ C) : ∃ k : Nat, (k : Int) ≤ C ∧ ixS C half k = i := by
  unfold ixS
  by_cases h : 1 ≤ half ∧ half ≤ C
  · by_cases h2 : half.toNat ≤ i
    · refine ⟨i - half.toNat, by omega, ?_⟩
      rw [if_pos h, Nat.sub_add_cancel h2, Nat.mod_eq_of_lt (by omega)]
    · refine ⟨i + (C + 1).toNat - half.toNat, by omega, ?_⟩
      rw [if_pos h, Nat.sub_add_cancel (by omega), Nat.add_mod_right, Nat.mod_eq_of_lt (by omega)]
  · exact ⟨i, hi, by rw [if_neg h]⟩
theorem lnS_length {f : Fct} (h : f.ok = true) (half : Int) (k : Nat) : (lnS f half k).length = f.xs.length := by
  have hl := ok_len h
  have h9 := size_st (N := (f.C + 1).toNat) hl.1 hl.2.1 (by omega)
  induction k with
  | zero => unfold lnS; rw [List.length_replicate]; omega
  | succ k ih => unfold lnS; rw [setL_length, ih]
theorem lineS_at {f : Fct} {i p : Nat} (h : f.ok = true) (hi : (i : Int) ≤ f.C) (h1 : st (f.C + 1).toNat i ≤ p) (h2 : p < st (f.C + 1).toNat (i + 1)) : (lineS f i)[i + (p - st (f.C + 1).toNat i)]?.getD 0 = f.xs[p]?.getD 0 := by
  have hs := st_succ (f.C + 1).toNat i
  have hb : atB f.C i (i + (p - st (f.C + 1).toNat i) : Nat) = true := atB_iff.2 (by have := ok_len h; omega)
  rw [lineS_get (hasS_iff.2 ⟨h, by omega, hi⟩) (by omega)]
  unfold getS
  rw [h, hb, Bool.and_true, if_pos rfl]
  unfold atI
  rw [if_pos hb]
  congr 2
  rw [Int.toNat_natCast]
  omega
/-- Each entry is the factor's own, or 0; those of rows that are set are the factor's. -/
theorem lnS_get {f : Fct} (h : f.ok = true) (half : Int) (k : Nat) (hk : (k : Int) ≤ f.C + 1) {p : Nat} (hp : p < f.xs.length) :
    ((lnS f half k)[p]?.getD 0 = f.xs[p]?.getD 0 ∨ (lnS f half k)[p]?.getD 0 = 0) ∧ ∀ m i : Nat, m < k → i = ixS f.C half m → st (f.C + 1).toNat i ≤ p → p < st (f.C + 1).toNat (i + 1) → (lnS f half k)[p]?.getD 0 = f.xs[p]?.getD 0 := by
  have hl := ok_len h
  induction k with
  | zero =>
    refine ⟨.inr ?_, fun m i hm => absurd hm (Nat.not_lt_zero m)⟩
    unfold lnS
    rw [List.getElem?_replicate]; split <;> rfl
  | succ k ih =>
    obtain ⟨ih1, ih2⟩ := ih (by omega)
    have hix := ixS_lt (C := f.C) (half := half) (k := k) hl.1 (by omega)
    have hlp : p < (lnS f half k).length := by rw [lnS_length h]; exact hp
    unfold lnS
    rw [setL_get hlp]
    unfold setP
    by_cases hin : st (f.C + 1).toNat (ixS f.C half k) ≤ p ∧ p < st (f.C + 1).toNat (ixS f.C half k + 1)
    · rw [if_pos hin, lineS_at h hix hin.1 hin.2]
      exact ⟨.inl rfl, fun _ _ _ _ _ _ => rfl⟩
    · rw [if_neg hin]
      refine ⟨ih1, fun m i hm hi a b => ?_⟩
      by_cases hmk : m < k
      · exact ih2 m i hmk hi a b
      · obtain rfl : m = k := by omega
        subst hi
        exact absurd ⟨a, b⟩ hin
theorem lnS_check {f : Fct} (h : f.ok = true) (half : Int) (k : Nat) (hk : (k : Int) ≤ f.C + 1) : checkS f.C (lnS f half k) 0 0 = true := by
  have hl := ok_len h
  have h9 := size_st (N := (f.C + 1).toNat) hl.1 hl.2.1 (by omega)
  have hlen := lnS_length h half k
  have hr := (rowsOk_iff hl.2.2.1).1 hl.2.2.2.2.2.2.2.2
  unfold checkS headOk
  rw [Bool.and_eq_true, decide_eq_true_eq, hlen]
  refine ⟨⟨hl.1, hl.2.1, by omega, by omega, by omega, by omega, by omega⟩, (rowsOk_iff (by rw [hlen]; exact hl.2.2.1)).2 ⟨fun j hj => ?_, fun i hi => ?_⟩⟩
  · rw [hlen] at hj
    rcases (lnS_get h half k hk hj).1 with e | e
    · rw [e]; exact hr.1 j hj
    · rw [e]; exact zero_small
  · have hp : st (f.C + 1).toNat i < f.xs.length := by have := st_in (N := (f.C + 1).toNat) (i := i) (d := 0) hi (by omega); omega
    rcases (lnS_get h half k hk hp).1 with e | e
    · rw [e]; exact hr.2 i hi
    · rw [e]; exact zero_sg
/-- A factor is its lines. -/
theorem lnS_all {f : Fct} (h : f.ok = true) (half : Int) : lnS f half (f.C + 1).toNat = f.xs := by
  have hl := ok_len h
  refine list_ext (lnS_length h half _) fun p hp => ?_
  rw [lnS_length h] at hp
  have hp2 := hp
  rw [hl.2.2.1] at hp2
  obtain ⟨i, hi, a, b⟩ := st_find _ hp2
  obtain ⟨k, hk, e⟩ := ixS_onto (C := f.C) (half := half) (i := i) hl.1 (by omega)
  exact (lnS_get h half _ (by omega) hp).2 k i (by omega) e.symm a b
/-- The next line is set. -/
theorem lnS_step {f : Fct} (h : f.ok = true) (half : Int) {k : Nat} (hk : (k : Int) ≤ f.C) :
    setB ⟨f.C, lnS f half k, 0, 0⟩ (ixS f.C half k) (lineS f (ixS f.C half k)) = true := by
  have hl := ok_len h
  have hix := ixS_lt (C := f.C) (half := half) (k := k) hl.1 hk
  unfold setB
  rw [Bool.and_eq_true, Bool.and_eq_true, decide_eq_true_eq]
  refine ⟨⟨hasS_iff.2 ⟨lnS_check h half k (by omega), by omega, hix⟩, ?_⟩, ?_⟩
  · rw [lineS_length (hasS_iff.2 ⟨h, by omega, hix⟩)]; show _ = f.C + 1; omega
  · have := lnS_check h half (k + 1) (by omega)
    unfold lnS at this
    rw [Int.toNat_natCast]
    exact this
theorem setF_step {f : Fct} (h : f.ok = true) (half : Int) {k : Nat} (hk : (k : Int) ≤ f.C) :
    setF ⟨f.C, lnS f half k, 0, 0⟩ (ixS f.C half k) (lineS f (ixS f.C half k)) = ⟨f.C, lnS f half (k + 1), 0, 0⟩ := by
  unfold setF
  rw [if_pos (lnS_step h half hk), Int.toNat_natCast]
  rfl

/-- The place of an entry, as the program counts it. -/
theorem before_st {N i : Nat} (hi : i ≤ N) (hN : N ≤ 7) : (i : Int) * N - ((i : Int) * ((i : Int) - 1)).tdiv 2 = st N i := by
  have : ∀ N i : Nat, N ≤ 7 → i ≤ N → (i : Int) * N - ((i : Int) * ((i : Int) - 1)).tdiv 2 = st N i := by
    intro N i hN hi
    have h1 : N = 0 ∨ N = 1 ∨ N = 2 ∨ N = 3 ∨ N = 4 ∨ N = 5 ∨ N = 6 ∨ N = 7 := by omega
    have h2 : i = 0 ∨ i = 1 ∨ i = 2 ∨ i = 3 ∨ i = 4 ∨ i = 5 ∨ i = 6 ∨ i = 7 := by omega
    rcases h1 with rfl | rfl | rfl | rfl | rfl | rfl | rfl | rfl <;> rcases h2 with rfl | rfl | rfl | rfl | rfl | rfl | rfl | rfl <;> first | decide | omega
  exact this N i hN hi

end Lev

/- Sums of products of floats that are In: they are numbers; plain. -/
namespace Lev
open Ieee

def fadd (a b : Nat) : Nat := (D.add a b).getD 0

/-- What is rounded is not above what can be told and is not below it. -/
theorem rnd_le {v B : Rat} {r : Nat} (h : IsRnd v r) (hv : v ≤ B) (hB : rep B) : r < INF ∧ (rm r : Rat) * pw (-1074) ≤ B := by
  obtain ⟨R, hR, hB⟩ := hB
  have h1 := IsRnd.exact hR
  rw [hB] at h1
  have h2 := h.mono h1 hv
  refine ⟨by omega, ?_⟩
  rw [← hB]
  exact unit_le.2 (rm_mono h2)

theorem ab_add (x y : Rat) : ab (x + y) ≤ ab x + ab y := by
  unfold ab
  repeat' split
  all_goals grind

theorem fin_word {s : Bool} {r : Nat} (h : r < INF) : fin (D.word s r) := by
  have := INF_eq
  unfold fin; rw [rg_word _ _ (by omega)]; exact h
theorem ab_word {s : Bool} {r : Nat} (h : r < INF) : ab (fv (D.word s r)) = (rm r : Rat) * pw (-1074) := by
  have := INF_eq
  rw [ab_fv, rg_word _ _ (by omega)]

/-- A product that is a number, and not above a bound. -/
theorem mul_bd {a b : Nat} {B : Rat} (ha : fin a) (hb : fin b) (h : ab (fv a) * ab (fv b) ≤ B) (hB : rep B) : D.mul a b = some (fmul a b) ∧ fin (fmul a b) ∧ ab (fv (fmul a b)) ≤ B ∧ fmul a b < 18446744073709551616 := by
  have hI := INF_eq
  obtain ⟨r, h1, h2⟩ := mul_spec ha hb
  rw [ab_mul] at h2
  obtain ⟨k1, k2⟩ := rnd_le h2 h hB
  have e : fmul a b = D.word (sg a ^^ sg b) r := by unfold fmul; rw [h1]; rfl
  rw [e]
  exact ⟨h1, fin_word k1, by rw [ab_word k1]; exact k2, word_lt64 _ _ (by omega)⟩
theorem add_bd {a b : Nat} {B : Rat} (ha : fin a) (hb : fin b) (h : ab (fv a) + ab (fv b) ≤ B) (hB : rep B) : D.add a b = some (fadd a b) ∧ fin (fadd a b) ∧ ab (fv (fadd a b)) ≤ B ∧ fadd a b < 18446744073709551616 := by
  have hI := INF_eq
  obtain ⟨r, h1, h2⟩ := add_spec ha hb
  obtain ⟨k1, k2⟩ := rnd_le h2 (Rat.le_trans (ab_add _ _) h) hB
  have e : fadd a b = D.word (sumSg (sg a) (sg b) (fv a + fv b)) r := by unfold fadd; rw [h1]; rfl
  rw [e]
  exact ⟨h1, fin_word k1, by rw [ab_word k1]; exact k2, word_lt64 _ _ (by omega)⟩

theorem rep_pw {M : Nat} {E : Int} (hM : M < 9007199254740992) (h1 : -1074 ≤ E) (h2 : E ≤ 971) : rep ((M : Rat) * pw E) := rep_yes hM h1 h2

theorem fv_p400 : fv 6408622269748215808 = pw 400 := fv_pow 1423 (by decide) (by decide)
theorem inS_bd {x : Nat} (h : inS x = true) : fin x ∧ ab (fv x) ≤ pw 400 := by
  have hI := INF_eq
  unfold inS at h
  rw [decide_eq_true_eq] at h
  have h1 : rg x ≤ 6408622269748215808 := by omega
  refine ⟨by unfold fin; omega, ?_⟩
  have h2 : ab (fv 6408622269748215808) = pw 400 := by rw [fv_p400, ab_pw]
  rw [← h2, ab_fv, ab_fv]
  have h3 : rg 6408622269748215808 = 6408622269748215808 := by decide
  rw [h3]
  exact unit_le.2 (rm_mono h1)

def ge (xs : List Nat) (k : Nat) : Nat := xs[k]?.getD 0
def allIn (xs : List Nat) : Bool := xs.all inS
theorem allIn_get {xs : List Nat} (h : allIn xs = true) {k : Nat} (hk : k < xs.length) : inS (ge xs k) = true := by
  unfold allIn at h
  rw [List.all_eq_true] at h
  unfold ge
  rw [List.getElem?_eq_getElem hk]
  exact h _ (List.getElem_mem hk)

/-- The product of two floats that are In. -/
theorem prod_in {x y : Nat} (hx : inS x = true) (hy : inS y = true) : D.mul x y = some (fmul x y) ∧ fin (fmul x y) ∧ ab (fv (fmul x y)) ≤ pw 800 ∧ fmul x y < 18446744073709551616 := by
  obtain ⟨f1, b1⟩ := inS_bd hx
  obtain ⟨f2, b2⟩ := inS_bd hy
  refine mul_bd f1 f2 ?_ ?_
  · have e : pw 800 = pw 400 * pw 400 := by rw [← pw_add]; rfl
    rw [e]
    have h1 := Rat.mul_le_mul_of_nonneg_left b2 (ab_nonneg (fv x))
    have h2 := Rat.mul_le_mul_of_nonneg_right b1 (Rat.le_of_lt (pw_pos 400))
    exact Rat.le_trans h1 h2
  · have := rep_pw (M := 1) (E := 800) (by decide) (by decide) (by decide)
    rwa [show ((1 : Nat) : Rat) = 1 from rfl, Rat.one_mul] at this

/-- A sum of k terms, none of them above 2 to the power of E. -/
def sumT (t : Nat → Nat) : Nat → Nat
  | 0 => 0
  | k + 1 => fadd (sumT t k) (t k)
theorem fin_zero : fin 0 := by decide
theorem ab_fv0 : ab (fv 0) = 0 := by rw [ab_fv]; decide +kernel
theorem sumT_bd {t : Nat → Nat} {E : Int} (h1 : -1074 ≤ E) (h2 : E ≤ 971) : ∀ k : Nat, k ≤ 1000 → (∀ i, i < k → fin (t i) ∧ ab (fv (t i)) ≤ pw E) →
    fin (sumT t k) ∧ ab (fv (sumT t k)) ≤ (k : Rat) * pw E ∧ sumT t k < 18446744073709551616 := by
  intro k
  induction k with
  | zero =>
    intro _ _
    refine ⟨fin_zero, ?_, by show 0 < 18446744073709551616; decide⟩
    show ab (fv 0) ≤ _
    rw [ab_fv0, show ((0 : Nat) : Rat) = 0 from rfl, Rat.zero_mul]; exact Rat.le_refl
  | succ k ih =>
    intro hk ht
    obtain ⟨a1, a2, a3⟩ := ih (by omega) (fun i hi => ht i (by omega))
    obtain ⟨b1, b2⟩ := ht k (by omega)
    have h3 := add_bd (B := ((k + 1 : Nat) : Rat) * pw E) a1 b1 (by
      rw [show ((k + 1 : Nat) : Rat) = (k : Rat) + 1 from by rw [Rat.natCast_add]; rfl, Rat.add_mul, Rat.one_mul]
      grind) (rep_pw (by omega) h1 h2)
    exact h3.2
theorem sumT_add {t : Nat → Nat} {E : Int} (h1 : -1074 ≤ E) (h2 : E ≤ 971) {k : Nat} (hk : k < 1000) (ht : ∀ i, i < k + 1 → fin (t i) ∧ ab (fv (t i)) ≤ pw E) : D.add (sumT t k) (t k) = some (sumT t (k + 1)) := by
  obtain ⟨a1, a2, a3⟩ := sumT_bd h1 h2 k (by omega) (fun i hi => ht i (by omega))
  obtain ⟨b1, b2⟩ := ht k (by omega)
  exact (add_bd (B := ((k + 1 : Nat) : Rat) * pw E) a1 b1 (by
      rw [show ((k + 1 : Nat) : Rat) = (k : Rat) + 1 from by rw [Rat.natCast_add]; rfl, Rat.add_mul, Rat.one_mul]
      grind) (rep_pw (by omega) h1 h2)).1

def dotT (xs ys : List Nat) (k : Nat) : Nat := fmul (ge xs k) (ge ys k)
/-- May two lists be counted? -/
def fitS (xs ys : List Nat) : Bool := decide (xs.length = ys.length) && allIn xs && allIn ys
theorem fitS_iff {xs ys : List Nat} : fitS xs ys = true ↔ xs.length = ys.length ∧ allIn xs = true ∧ allIn ys = true := by
  unfold fitS; rw [Bool.and_eq_true, Bool.and_eq_true, decide_eq_true_eq, and_assoc]
def dotF (xs ys : List Nat) : Nat := if fitS xs ys = true then sumT (dotT xs ys) xs.length else 0
theorem dotT_bd {xs ys : List Nat} (h : fitS xs ys = true) {i : Nat} (hi : i < xs.length) : fin (dotT xs ys i) ∧ ab (fv (dotT xs ys i)) ≤ pw 800 := by
  obtain ⟨h1, h2, h3⟩ := fitS_iff.1 h
  have := prod_in (allIn_get h2 hi) (allIn_get h3 (k := i) (by omega))
  unfold dotT
  exact ⟨this.2.1, this.2.2.1⟩

def absT (xs : List Nat) (k : Nat) : Nat := rg (ge xs k)
def sumF (xs : List Nat) : Nat := if allIn xs = true then sumT (absT xs) xs.length else 0
theorem fin_rg' {x : Nat} (h : fin x) : fin (rg x) := by unfold fin; rw [rg_rg]; exact h
theorem ab_rg (x : Nat) : ab (fv (rg x)) = ab (fv x) := by rw [ab_fv, ab_fv, rg_rg]
theorem absT_bd {xs : List Nat} (h : allIn xs = true) {i : Nat} (hi : i < xs.length) : fin (absT xs i) ∧ ab (fv (absT xs i)) ≤ pw 400 := by
  obtain ⟨h1, h2⟩ := inS_bd (allIn_get h hi)
  unfold absT
  exact ⟨fin_rg' h1, by rw [ab_rg]; exact h2⟩

/-- A product that is added to. -/
def axT (k : Nat) (xs ys : List Nat) (i : Nat) : Nat := fadd (ge ys i) (fmul k (ge xs i))
def axB (k : Nat) (xs ys : List Nat) : Bool := fitS xs ys && inS k
def axF (k : Nat) (xs ys : List Nat) : List Nat := if axB k xs ys = true then (List.range xs.length).map (axT k xs ys) else []
theorem pw_mono {a b : Int} (h : a ≤ b) : pw a ≤ pw b := pw_le h
theorem axT_bd {k : Nat} {xs ys : List Nat} (h : axB k xs ys = true) {i : Nat} (hi : i < xs.length) :
    D.mul k (ge xs i) = some (fmul k (ge xs i)) ∧ D.add (ge ys i) (fmul k (ge xs i)) = some (axT k xs ys i) ∧ fmul k (ge xs i) < 18446744073709551616 ∧ axT k xs ys i < 18446744073709551616 := by
  unfold axB at h
  rw [Bool.and_eq_true] at h
  obtain ⟨h1, h2, h3⟩ := fitS_iff.1 h.1
  have hp := prod_in h.2 (allIn_get h2 hi)
  obtain ⟨y1, y2⟩ := inS_bd (allIn_get h3 (k := i) (by omega))
  have ha := add_bd (B := ((2 : Nat) : Rat) * pw 800) y1 hp.2.1 (by
    have h5 := pw_mono (a := 400) (b := 800) (by decide)
    have := hp.2.2.1
    rw [show ((2 : Nat) : Rat) = 2 from rfl]
    grind) (rep_pw (by decide) (by decide) (by decide))
  exact ⟨hp.1, ha.1, hp.2.2.2, ha.2.2.2⟩

end Lev

/- The norm of a list: plain. -/
namespace Lev
open Ieee Go.Proofs.Ytigacobphgeeaaa

theorem topS_mono {a b : Nat} (h0 : rg a ≠ 0) (h : rg a ≤ rg b) : topS a ≤ topS b := by
  have hb : rg b ≠ 0 := by omega
  have h1 := val_ge h0
  have h2 := val_lt hb
  rw [ab_fv] at h1 h2
  have h3 := unit_le.2 (rm_mono h)
  rcases Int.lt_or_le (topS b) (topS a) with h4 | h4
  · exfalso
    have h5 : pw (topS b + 1) ≤ pw (topS a) := pw_le (by omega)
    grind
  · exact h4

/-- A float times a power of two. -/
theorem mul_pow2 {x : Nat} {k : Int} (hf : fin x) (h1 : -1022 ≤ k) (h2 : k ≤ 1023) : D.mul x (makeF false 1 k) = some (ldS x k) := by
  have hE : ((k + 1023).toNat : Int) - 1023 = k := by omega
  have hp := (makeF_pow (k + 1023).toNat (by omega) (by omega)).2
  rw [hE] at hp
  rw [hp]
  have hpf := fin_pow (k + 1023).toNat (by omega)
  have hpv := fv_pow (k + 1023).toNat (by omega) (by omega)
  rw [hE] at hpv
  have hps : sg ((k + 1023).toNat * 4503599627370496) = false := by
    unfold sg; rw [Nat.div_eq_of_lt (by omega)]; rfl
  obtain ⟨r, m1, m2⟩ := mul_spec hf hpf
  rw [m1, hps, Bool.xor_false]
  rw [ab_mul, hpv, ab_pw] at m2
  rw [m2.eq_rr (mul_pw_nonneg _ _)]
  rfl

def mostT (xs : List Nat) : Nat → Nat
  | 0 => 0
  | k + 1 => max (mostT xs k) (rg (ge xs k))
def topN (xs : List Nat) : Nat → Int
  | 0 => -2000
  | k + 1 => max (topN xs k) (topB (ge xs k))
theorem mostT_le {xs : List Nat} {k i : Nat} (h : i < k) : rg (ge xs i) ≤ mostT xs k := by
  induction k with
  | zero => omega
  | succ k ih =>
    unfold mostT
    by_cases hi : i < k
    · have := ih hi; omega
    · obtain rfl : i = k := by omega
      omega
theorem mostT_in {xs : List Nat} (h : allIn xs = true) : ∀ k, k ≤ xs.length → mostT xs k = 0 ∨ (2805742567851819008 ≤ mostT xs k ∧ mostT xs k ≤ 6408622269748215808) := by
  intro k
  induction k with
  | zero => intro _; exact .inl rfl
  | succ k ih =>
    intro hk
    have h1 := allIn_get h (k := k) (by omega)
    unfold inS at h1
    rw [decide_eq_true_eq] at h1
    unfold mostT
    have := ih (by omega)
    omega
theorem rg_small {m : Nat} (h : m ≤ 6408622269748215808) : rg m = m := by unfold rg; omega
theorem topB_of {x : Nat} (h : inS x = true) : topB x = if rg x = 0 then -2000 else topS x := by
  obtain ⟨hf, _⟩ := inS_bd h
  unfold topB
  by_cases h0 : rg x = 0
  · rw [kindS_zero h0, if_neg (by decide), if_pos h0]
  · rw [kindS_fin hf h0, if_pos rfl, if_neg h0]
theorem topS_lo400 {m : Nat} (h : 2805742567851819008 ≤ rg m) (h2 : rg m ≤ 6408622269748215808) : -400 ≤ topS m ∧ topS m ≤ 400 := by
  have e1 : topS 2805742567851819008 = -400 := by decide +kernel
  have e2 : topS 6408622269748215808 = 400 := by decide +kernel
  have r1 : rg 2805742567851819008 = 2805742567851819008 := by decide
  have r2 : rg 6408622269748215808 = 6408622269748215808 := by decide
  exact ⟨by rw [← e1]; exact topS_mono (by rw [r1]; decide) (by rw [r1]; exact h), by rw [← e2]; exact topS_mono (by omega) (by rw [r2]; exact h2)⟩
theorem topN_eq {xs : List Nat} (h : allIn xs = true) : ∀ k, k ≤ xs.length → topN xs k = if mostT xs k = 0 then -2000 else topS (mostT xs k) := by
  intro k
  induction k with
  | zero => intro _; rfl
  | succ k ih =>
    intro hk
    have h1 := allIn_get h (k := k) (by omega)
    have h2 := topB_of h1
    have h3 := mostT_in h k (by omega)
    unfold inS at h1
    rw [decide_eq_true_eq] at h1
    unfold topN mostT
    rw [ih (by omega), h2]
    have hx := topS_rg (ge xs k)
    by_cases hm : mostT xs k = 0
    · rw [if_pos hm, hm]
      by_cases hr : rg (ge xs k) = 0
      · rw [if_pos hr, hr]; rfl
      · rw [if_neg hr, Nat.zero_max, if_neg hr, hx]
        have := topS_lo400 (m := ge xs k) (by omega) (by omega)
        omega
    · rw [if_neg hm]
      have hmr : rg (mostT xs k) = mostT xs k := rg_small (by omega)
      by_cases hr : rg (ge xs k) = 0
      · rw [if_pos hr, hr, Nat.max_zero, if_neg hm]
        have := topS_lo400 (m := mostT xs k) (by omega) (by omega)
        omega
      · rw [if_neg hr]
        rcases Nat.le_total (mostT xs k) (rg (ge xs k)) with hle | hle
        · rw [Nat.max_eq_right hle, if_neg hr, hx]
          have := topS_mono (a := mostT xs k) (b := ge xs k) (by omega) (by omega)
          omega
        · rw [Nat.max_eq_left hle, if_neg hm]
          have := topS_mono (a := ge xs k) (b := mostT xs k) hr (by omega)
          omega

/-- Entry i, scaled; its square. -/
def scT (xs : List Nat) (k : Int) (i : Nat) : Nat := ldS (ge xs i) (-k)
def sqT (xs : List Nat) (k : Int) (i : Nat) : Nat := fmul (scT xs k i) (scT xs k i)
def sqrtF (s : Nat) : Nat := (D.sqrt s).getD 0
def normK (xs : List Nat) : Int := topS (mostT xs xs.length)
def normF (xs : List Nat) : Nat := if allIn xs = true ∧ mostT xs xs.length ≠ 0 then ldS (sqrtF (sumT (sqT xs (normK xs)) xs.length)) (normK xs) else 0

theorem ldS_bd {b : Nat} {k : Int} {B : Rat} (h : ab (fv b) * pw k ≤ B) (hB : rep B) : fin (ldS b k) ∧ ab (fv (ldS b k)) ≤ B ∧ sg (ldS b k) = sg b := by
  have hI := INF_eq
  have h1 := rr_spec (mul_pw_nonneg b k)
  obtain ⟨k1, k2⟩ := rnd_le h1 h hB
  unfold ldS
  exact ⟨fin_word k1, by rw [ab_word k1]; exact k2, sg_word _ _ (by omega)⟩
theorem rep_pw1 {E : Int} (h1 : -1074 ≤ E) (h2 : E ≤ 971) : rep (pw E) := by
  have := rep_pw (M := 1) (E := E) (by decide) h1 h2
  rwa [show ((1 : Nat) : Rat) = 1 from rfl, Rat.one_mul] at this

theorem norm_terms {xs : List Nat} (h : allIn xs = true) (h0 : mostT xs xs.length ≠ 0) {i : Nat} (hi : i < xs.length) :
    fin (ge xs i) ∧ fin (scT xs (normK xs) i) ∧ D.mul (scT xs (normK xs) i) (scT xs (normK xs) i) = some (sqT xs (normK xs) i) ∧ fin (sqT xs (normK xs) i) ∧ ab (fv (sqT xs (normK xs) i)) ≤ pw 2 ∧ sg (sqT xs (normK xs) i) = false ∧ sqT xs (normK xs) i < 18446744073709551616 := by
  obtain ⟨f1, _⟩ := inS_bd (allIn_get h hi)
  have hm := mostT_in h xs.length (Nat.le_refl _)
  have hmr : rg (mostT xs xs.length) = mostT xs xs.length := rg_small (by omega)
  have hle := mostT_le (xs := xs) hi
  have hv := val_lt (b := mostT xs xs.length) (by omega)
  have hy : ab (fv (ge xs i)) * pw (-normK xs) ≤ pw 1 := by
    have a1 : ab (fv (ge xs i)) ≤ ab (fv (mostT xs xs.length)) := by
      rw [ab_fv, ab_fv, hmr]; exact unit_le.2 (rm_mono hle)
    have a2 : ab (fv (ge xs i)) ≤ pw (normK xs + 1) := Rat.le_of_lt (by unfold normK; grind)
    have a3 := Rat.mul_le_mul_of_nonneg_right a2 (Rat.le_of_lt (pw_pos (-normK xs)))
    rw [← pw_add, show normK xs + 1 + -normK xs = 1 from by omega] at a3
    exact a3
  obtain ⟨g1, g2, g3⟩ := ldS_bd hy (rep_pw1 (by decide) (by decide))
  have hmul := mul_bd (a := scT xs (normK xs) i) (b := scT xs (normK xs) i) (B := pw 2) g1 g1 (by
    have e : pw 2 = pw 1 * pw 1 := by rw [← pw_add]; rfl
    rw [e]
    have b1 := Rat.mul_le_mul_of_nonneg_left g2 (ab_nonneg (fv (scT xs (normK xs) i)))
    have b2 := Rat.mul_le_mul_of_nonneg_right g2 (Rat.le_of_lt (pw_pos 1))
    exact Rat.le_trans b1 b2) (rep_pw1 (by decide) (by decide))
  refine ⟨f1, g1, hmul.1, hmul.2.1, hmul.2.2.1, ?_, hmul.2.2.2⟩
  have hI := INF_eq
  obtain ⟨r, m1, m2⟩ := mul_spec g1 g1
  unfold sqT fmul
  show sg ((D.mul (ldS (ge xs i) (-normK xs)) (ldS (ge xs i) (-normK xs))).getD 0) = false
  rw [m1]
  show sg (D.word _ r) = false
  rw [sg_word _ _ m2.lt63, Bool.xor_self]

theorem fv_nonneg {x : Nat} (h : sg x = false) : 0 ≤ fv x := by
  unfold fv; rw [h]
  exact Rat.mul_nonneg Rat.natCast_nonneg (Rat.le_of_lt (pw_pos _))
theorem fadd_sg {a b : Nat} (ha : fin a) (hb : fin b) (h1 : sg a = false) (h2 : sg b = false) : sg (fadd a b) = false := by
  obtain ⟨r, m1, m2⟩ := add_spec ha hb
  unfold fadd
  rw [m1]
  show sg (D.word _ r) = false
  rw [sg_word _ _ m2.lt63]
  unfold sumSg
  rw [h1, h2]
  split
  · rfl
  · rw [decide_eq_false_iff_not]
    have := fv_nonneg h1
    have := fv_nonneg h2
    grind
theorem sumT_sg {t : Nat → Nat} {E : Int} (h1 : -1074 ≤ E) (h2 : E ≤ 971) : ∀ k : Nat, k ≤ 1000 → (∀ i, i < k → fin (t i) ∧ ab (fv (t i)) ≤ pw E ∧ sg (t i) = false) → sg (sumT t k) = false := by
  intro k
  induction k with
  | zero => intro _ _; show sg 0 = false; decide
  | succ k ih =>
    intro hk ht
    have a1 := ih (by omega) (fun i hi => ht i (by omega))
    have a2 := (sumT_bd h1 h2 k (by omega) (fun i hi => ⟨(ht i (by omega)).1, (ht i (by omega)).2.1⟩)).1
    obtain ⟨b1, b2, b3⟩ := ht k (by omega)
    exact fadd_sg a2 b1 a1 b3

theorem sqrt_bd {s : Nat} (hs : fin s) (hg : sg s = false) (hB : ab (fv s) ≤ pw 20) : D.sqrt s = some (sqrtF s) ∧ fin (sqrtF s) ∧ sqrtF s < 18446744073709551616 ∧ sg (sqrtF s) = false := by
  have hI := INF_eq
  by_cases h0 : rg s = 0
  · have h1 := sqrt_zero h0
    have e : sqrtF s = D.word (sg s) 0 := by unfold sqrtF; rw [h1]; rfl
    rw [e, hg]
    exact ⟨by rw [h1, hg], fin_word (by omega), word_lt64 _ _ (by decide), sg_word _ _ (by decide)⟩
  · obtain ⟨r, h1, h2⟩ := sqrt_spec hs hg h0
    have e : sqrtF s = D.word false r := by unfold sqrtF; rw [h1]; rfl
    have hr : r < INF := by
      rcases Nat.lt_or_ge r INF with h | h
      · exact h
      · exfalso
        have hr : r = INF := Nat.le_antisymm h2.1 h
        subst hr
        have h3 := (h2.2.2 (by omega)).1
        have h4 : fv s ≤ pw 20 := by
          have h5 : fv s = ab (fv s) := by unfold ab; rw [if_neg (by have := fv_nonneg hg; grind)]
          rw [h5]; exact hB
        have h6 : pw 1023 ≤ (mid2 (INF - 1) : Rat) * pw (-1075) := by
          have a1 : ((rm INF : Nat) : Rat) ≤ (mid2 (INF - 1) : Rat) := by
            unfold mid2
            rw [show INF - 1 + 1 = INF from by omega]
            exact cast_le.2 (Nat.le_add_left _ _)
          have a2 := Rat.mul_le_mul_of_nonneg_right a1 (Rat.le_of_lt (pw_pos (-1075)))
          have a3 : (rm INF : Rat) * pw (-1075) = pw 1023 := by
            have := rm_inf
            rw [half_unit] at this
            have h8 := pw_double 1023
            rw [show (1023 : Int) + 1 = 1024 from rfl] at h8
            grind
          rw [a3] at a2; exact a2
        have h7 := sq_le (Rat.le_of_lt (pw_pos 1023)) h6
        have h8 : pw 1023 * pw 1023 = pw 2046 := by rw [← pw_add]; rfl
        have h9 : pw 20 < pw 2046 := pw_lt (by decide)
        grind
    rw [e]
    exact ⟨h1, fin_word hr, word_lt64 _ _ (by omega), sg_word _ _ (by omega)⟩

/-- The sum of the squares, scaled. -/
theorem norm_sum {xs : List Nat} (h : allIn xs = true) (h0 : mostT xs xs.length ≠ 0) (hl : xs.length ≤ 1000) :
    fin (sumT (sqT xs (normK xs)) xs.length) ∧ sg (sumT (sqT xs (normK xs)) xs.length) = false ∧ ab (fv (sumT (sqT xs (normK xs)) xs.length)) ≤ pw 20 := by
  have ht : ∀ i, i < xs.length → fin (sqT xs (normK xs) i) ∧ ab (fv (sqT xs (normK xs) i)) ≤ pw 2 := fun i hi => ⟨(norm_terms h h0 hi).2.2.2.1, (norm_terms h h0 hi).2.2.2.2.1⟩
  obtain ⟨a1, a2, _⟩ := sumT_bd (E := 2) (by decide) (by decide) xs.length hl ht
  refine ⟨a1, sumT_sg (E := 2) (by decide) (by decide) xs.length hl (fun i hi => ⟨(ht i hi).1, (ht i hi).2, (norm_terms h h0 hi).2.2.2.2.2.1⟩), Rat.le_trans a2 ?_⟩
  have h1 : ((xs.length : Nat) : Rat) ≤ ((2 ^ 18 : Nat) : Rat) := cast_le.2 (by omega)
  rw [← pw_nat] at h1
  have h2 := Rat.mul_le_mul_of_nonneg_right h1 (Rat.le_of_lt (pw_pos 2))
  rw [← pw_add] at h2
  exact h2

end Lev

/- KernMost in plain Lean: no entry's size is above the sum of sizes, nor above the norm. -/
namespace Lev

theorem IsRndS.mono {x y : Rat} {r s : Nat} (hx : IsRndS x r) (hy : IsRndS y s) (h : x ≤ y) : r ≤ s := by
  rcases Nat.lt_or_ge s r with hlt | hge
  · exfalso
    obtain ⟨hr, _, hr2⟩ := hx
    obtain ⟨hs, hs1, _⟩ := hy
    obtain ⟨a1, a2⟩ := hr2 (by omega)
    obtain ⟨b1, b2⟩ := hs1 (by omega)
    have h3 := Rat.le_trans a1 (Rat.le_trans h b1)
    have h5 : r - 1 = s := by
      rcases Nat.lt_or_ge s (r - 1) with h6 | h6
      · exfalso
        have h7 : (mid2 s : Rat) * pw (-1075) < (mid2 (r - 1) : Rat) * pw (-1075) := Rat.mul_lt_mul_of_pos_right (cast_lt.2 (mid2_lt h6)) (pw_pos _)
        have h8 := sq_lt (Rat.mul_nonneg Rat.natCast_nonneg (Rat.le_of_lt (pw_pos _))) h7
        exact absurd h3 (by grind)
      · omega
    subst h5
    have e1 := Rat.le_antisymm (Rat.le_trans h b1) a1
    have e2 := Rat.le_antisymm b1 (Rat.le_trans a1 h)
    have p1 := a2 e1.symm
    have p2 := b2 e2
    omega
  · exact hge
theorem IsRndS.unique {x : Rat} {r s : Nat} (hx : IsRndS x r) (hy : IsRndS x s) : r = s :=
  Nat.le_antisymm (hx.mono hy Rat.le_refl) (hy.mono hx Rat.le_refl)

/-- The whole numbers behind: c is 2^968. -/
theorem root_nat {k S S1 S0 c : Nat} (hc : 0 < c) (hk : 4503599627370496 < k) (hk2 : k < 9007199254740992)
    (hup : S0 + S ≤ 8 * (k * k * c)) (hg0 : S ≤ S0 + 36028797018963968 * c)
    (hlo : 8 * (k * k * c) ≤ S + S1) (hg1 : S1 ≤ S + 36028797018963968 * c) :
    S < (2 * k + 1) * (2 * k + 1) * c ∧ (2 * k - 1) * (2 * k - 1) * c < S := by
  have e1 : (2 * k + 1) * (2 * k + 1) * c = 4 * (k * k * c) + 4 * (k * c) + c := by
    have h0 : (2 * k + 1) * (2 * k + 1) = 4 * (k * k) + 4 * k + 1 := by
      rw [Nat.mul_add, Nat.add_mul]
      have : 2 * k * (2 * k) = 4 * (k * k) := by rw [Nat.mul_mul_mul_comm]
      omega
    rw [h0]
    rw [Nat.add_mul, Nat.add_mul, Nat.mul_assoc 4, Nat.mul_assoc 4, Nat.one_mul]
  obtain ⟨j, rfl⟩ : ∃ j, k = j + 1 := ⟨k - 1, by omega⟩
  have e2 : (2 * (j + 1) - 1) * (2 * (j + 1) - 1) * c + 4 * ((j + 1) * c) = 4 * ((j + 1) * (j + 1) * c) + c := by
    rw [show 2 * (j + 1) - 1 = 2 * j + 1 from by omega]
    have h1 : (2 * j + 1) * (2 * j + 1) = 4 * (j * j) + 4 * j + 1 := by
      rw [Nat.mul_add, Nat.add_mul]; have : 2 * j * (2 * j) = 4 * (j * j) := by rw [Nat.mul_mul_mul_comm]
      omega
    have h2 : (j + 1) * (j + 1) = j * j + 2 * j + 1 := by rw [Nat.mul_add, Nat.add_mul]; omega
    rw [h1, h2]
    simp only [Nat.add_mul, Nat.mul_assoc, Nat.one_mul]
    omega
  have h3 : 4503599627370497 * c ≤ (j + 1) * c := Nat.mul_le_mul_right c (by omega)
  generalize (j + 1) * (j + 1) * c = kk at *
  generalize (j + 1) * c = kc at *
  omega

theorem unit_le' {a b : Nat} (h : (a : Rat) * pw (-1074) ≤ 2 * ((b : Rat) * pw (-1074))) : a ≤ 2 * b := by
  have e : 2 * ((b : Rat) * pw (-1074)) = ((2 * b : Nat) : Rat) * pw (-1074) := by rw [Rat.natCast_mul, ← Rat.mul_assoc]; rfl
  rw [e] at h
  exact unit_le.1 h
theorem unit_le2 {a b : Nat} (h : 2 * ((b : Rat) * pw (-1074)) ≤ (a : Rat) * pw (-1074)) : 2 * b ≤ a := by
  have e : 2 * ((b : Rat) * pw (-1074)) = ((2 * b : Nat) : Rat) * pw (-1074) := by rw [Rat.natCast_mul, ← Rat.mul_assoc]; rfl
  rw [e] at h
  exact unit_le.1 h
set_option exponentiation.threshold 3000 in
/-- A number against the square of a half way. -/
theorem half_sq {S M : Nat} : (S : Rat) * pw (-1074) = ((S * 2 ^ 1076 : Nat) : Rat) * pw (-2150) ∧ ((M : Rat) * pw (-1075)) * ((M : Rat) * pw (-1075)) = ((M * M : Nat) : Rat) * pw (-2150) := by
  constructor
  · rw [Rat.natCast_mul, ← pw_nat, Rat.mul_assoc, ← pw_add]; rfl
  · rw [Rat.natCast_mul, show (-2150 : Int) = -1075 + -1075 from rfl, pw_add]
    grind

set_option exponentiation.threshold 3000 in
/-- The gap above a rung below 4. -/
theorem gap_le {s : Nat} (h : s < 4616189618054758400) : rm (s + 1) ≤ rm s + 36028797018963968 * 2 ^ 968 := by
  obtain ⟨e, k, rfl, he, hk⟩ := rung_seg s
  rw [rm_succ_seg e k he hk, rm_seg e k he (by omega), Nat.add_mul, Nat.one_mul]
  have h1 : e ≤ 1023 := by rcases he with h | h <;> omega
  have h2 : 2 ^ e ≤ 2 ^ 1023 := Nat.pow_le_pow_right (by decide) h1
  have h3 : 36028797018963968 * 2 ^ 968 = 2 ^ 1023 := by
    rw [show 36028797018963968 = 2 ^ 55 from by decide, ← Nat.pow_add]
  rw [h3]
  exact Nat.add_le_add_left h2 _

set_option exponentiation.threshold 3000 in
theorem root_back {k s : Nat} (hk : 4503599627370496 < k) (hk2 : k < 9007199254740992) (hs : IsRnd (((k * k * (4 * 2 ^ 968) : Nat) : Rat) * pw (-1074)) s) :
    IsRndS ((rm s : Rat) * pw (-1074)) (1022 * 4503599627370496 + k) := by
  have hI := INF_eq
  -- below 4
  have h4 : rm 4616189618054758400 = 2 ^ 108 * 2 ^ 968 := by
    rw [show 4616189618054758400 = 1024 * 4503599627370496 + 4503599627370496 from by decide, rm_seg 1024 4503599627370496 (.inr (Nat.le_refl _)) (by decide), show 4503599627370496 = 2 ^ 52 from by decide, ← Nat.pow_add]
  have hkk : k * k * (4 * 2 ^ 968) < 2 ^ 108 * 2 ^ 968 := by
    have h1 : k * k < 9007199254740992 * 9007199254740992 := Nat.mul_lt_mul_of_lt_of_le hk2 (Nat.le_of_lt hk2) (by decide)
    have h2 : 9007199254740992 * 9007199254740992 * 4 = 2 ^ 108 := by decide
    rw [← Nat.mul_assoc]
    exact Nat.mul_lt_mul_of_pos_right (by omega) (Nat.pow_pos (by decide))
  have hs4 : s ≤ 4616189618054758400 := hs.mono (IsRnd.exact (r := 4616189618054758400) (by omega)) (unit_le.2 (by rw [h4]; exact Nat.le_of_lt hkk))
  have hs0 : 0 < s := by
    rcases Nat.eq_zero_or_pos s with h | h
    · exfalso
      subst h
      have h1 := unit_le2 (hs.2.1 (by omega)).1
      have h2 : mid2 0 = 1 := by decide
      rw [h2] at h1
      have h3 : 0 < k * k * (4 * 2 ^ 968) := Nat.mul_pos (Nat.mul_pos (by omega) (by omega)) (Nat.mul_pos (by decide) (Nat.pow_pos (by decide)))
      omega
    · exact h
  have hm2 : mid2 (1022 * 4503599627370496 + k) = (2 * k + 1) * 2 ^ 1022 := mid2_seg 1022 k (.inr (by omega)) hk2
  have hm1 : mid2 (1022 * 4503599627370496 + k - 1) = (2 * k - 1) * 2 ^ 1022 := by
    rw [show 1022 * 4503599627370496 + k - 1 = 1022 * 4503599627370496 + (k - 1) from by omega, mid2_seg 1022 (k - 1) (.inr (by omega)) (by omega), show 2 * (k - 1) + 1 = 2 * k - 1 from by omega]
  have hcc : (2 : Nat) ^ 1022 * 2 ^ 1022 = 2 ^ 968 * 2 ^ 1076 := by rw [← Nat.pow_add]
  have hc0 : 0 < 2 ^ 968 := Nat.pow_pos (by decide)
  have key : rm s < (2 * k + 1) * (2 * k + 1) * 2 ^ 968 ∧ (2 * k - 1) * (2 * k - 1) * 2 ^ 968 < rm s := by
    have e8 : 2 * (k * k * (4 * 2 ^ 968)) = 8 * (k * k * 2 ^ 968) := by rw [Nat.mul_left_comm (k * k) 4, ← Nat.mul_assoc]
    have hup := unit_le' (hs.2.2 hs0).1
    rw [e8] at hup
    have hg0 := gap_le (s := s - 1) (by omega)
    rw [show s - 1 + 1 = s from by omega] at hg0
    have hu2 : rm (s - 1) + rm s ≤ 8 * (k * k * 2 ^ 968) := by unfold mid2 at hup; rw [show s - 1 + 1 = s from by omega] at hup; exact hup
    rcases Nat.lt_or_ge s 4616189618054758400 with hlt | hge
    · have hlo := unit_le2 (hs.2.1 (by omega)).1
      rw [e8] at hlo
      unfold mid2 at hlo
      exact root_nat hc0 hk hk2 hu2 hg0 hlo (gap_le hlt)
    · have hse : s = 4616189618054758400 := by omega
      have hbig : 8 * (k * k * 2 ^ 968) ≤ rm s + rm s := by
        rw [hse, h4, ← e8]; omega
      have h := root_nat hc0 hk hk2 hu2 hg0 hbig (Nat.le_add_right _ _)
      exact h
  refine ⟨by omega, fun _ => ?_, fun _ => ?_⟩
  · have h1 : (2 * k + 1) * 2 ^ 1022 * ((2 * k + 1) * 2 ^ 1022) = (2 * k + 1) * (2 * k + 1) * 2 ^ 968 * 2 ^ 1076 := by
      rw [Nat.mul_mul_mul_comm, hcc, ← Nat.mul_assoc]
    have h2 : rm s * 2 ^ 1076 < (2 * k + 1) * 2 ^ 1022 * ((2 * k + 1) * 2 ^ 1022) := by
      rw [h1]; exact Nat.mul_lt_mul_of_pos_right key.1 (Nat.pow_pos (by decide))
    have h3 := Rat.mul_lt_mul_of_pos_right (cast_lt.2 h2) (pw_pos (-2150))
    rw [← (half_sq (S := rm s) (M := 0)).1, ← (half_sq (S := 0) (M := (2 * k + 1) * 2 ^ 1022)).2, ← hm2] at h3
    exact ⟨Rat.le_of_lt h3, fun he => absurd he (Rat.ne_of_lt h3)⟩
  · have h1 : (2 * k - 1) * 2 ^ 1022 * ((2 * k - 1) * 2 ^ 1022) = (2 * k - 1) * (2 * k - 1) * 2 ^ 968 * 2 ^ 1076 := by
      rw [Nat.mul_mul_mul_comm, hcc, ← Nat.mul_assoc]
    have h2 : (2 * k - 1) * 2 ^ 1022 * ((2 * k - 1) * 2 ^ 1022) < rm s * 2 ^ 1076 := by
      rw [h1]; exact Nat.mul_lt_mul_of_pos_right key.2 (Nat.pow_pos (by decide))
    have h3 := Rat.mul_lt_mul_of_pos_right (cast_lt.2 h2) (pw_pos (-2150))
    rw [← (half_sq (S := rm s) (M := 0)).1, ← (half_sq (S := 0) (M := (2 * k - 1) * 2 ^ 1022)).2, ← hm1] at h3
    exact ⟨Rat.le_of_lt h3, fun he => absurd he (Rat.ne_of_lt h3)⟩

theorem fmul_val {y s : Nat} (h : D.mul y y = some (D.word (sg y ^^ sg y) s)) : fmul y y = s := by
  unfold fmul; rw [h, Bool.xor_self]; exact word_false s

set_option exponentiation.threshold 3000 in
/-- The root of a square, of a float from 1 up to 2. -/
theorem sqrt_sq {y : Nat} (h1 : 4607182418800017408 ≤ rg y) (h2 : rg y < 4611686018427387904) : sqrtF (fmul y y) = rg y := by
  have hI := INF_eq
  have hf : fin y := by unfold fin; omega
  by_cases h0 : rg y = 4607182418800017408
  · -- 1
    obtain ⟨s, m1, m2⟩ := mul_spec hf hf
    have hv : ab (fv y) = pw 0 := by rw [ab_fv, h0, ← ab_pw 0, ← c0, ab_fv]; rfl
    have hp : ab (fv y * fv y) = pw 0 := by rw [ab_mul, hv, ← pw_add]; rfl
    rw [hp] at m2
    have hx : IsRnd (pw 0) 4607182418800017408 := by
      have := IsRnd.exact (r := 4607182418800017408) (by omega)
      rw [← hv, ab_fv, h0]; exact this
    have hs : s = 4607182418800017408 := m2.unique hx
    rw [fmul_val m1, hs, h0]
    decide +kernel
  · obtain ⟨k, hk⟩ : ∃ k, rg y = 1022 * 4503599627370496 + k := ⟨rg y - 1022 * 4503599627370496, by omega⟩
    obtain ⟨s, m1, m2⟩ := mul_spec hf hf
    have hv : ab (fv y) = ((k * 2 ^ 1022 : Nat) : Rat) * pw (-1074) := by rw [ab_fv, hk, rm_seg 1022 k (.inr (by omega)) (by omega)]
    have hp : ab (fv y * fv y) = ((k * k * (4 * 2 ^ 968) : Nat) : Rat) * pw (-1074) := by
      rw [ab_mul, hv]
      have e1 : ((k * 2 ^ 1022 : Nat) : Rat) = (k : Rat) * pw 1022 := by rw [Rat.natCast_mul, ← pw_nat]; rfl
      have e2 : ((k * k * (4 * 2 ^ 968) : Nat) : Rat) = (k : Rat) * k * pw 970 := by
        rw [show 4 * 2 ^ 968 = 2 ^ 970 from by rw [show 4 = 2 ^ 2 from rfl, ← Nat.pow_add], Rat.natCast_mul, Rat.natCast_mul, ← pw_nat]; rfl
      rw [e1, e2]
      have e3 : pw 1022 * pw (-1074) * (pw 1022 * pw (-1074)) = pw 970 * pw (-1074) := by
        rw [← pw_add, ← pw_add, ← pw_add]; rfl
      grind
    rw [hp] at m2
    have hr := root_back (by omega) (by omega) m2
    have hsI : s < INF := by
      have h4 := m2.mono (IsRnd.exact (r := 4620693217682128896) (by omega)) (by
        refine unit_le.2 ?_
        rw [show 4620693217682128896 = 1025 * 4503599627370496 + 4503599627370496 from by decide, rm_seg 1025 4503599627370496 (.inr (Nat.le_refl _)) (by decide)]
        have h5 : k * k ≤ 9007199254740992 * 9007199254740992 := Nat.mul_le_mul (by omega) (by omega)
        have h6 : 4503599627370496 * 2 ^ 1025 = 9007199254740992 * 9007199254740992 * (8 * 2 ^ 968) := by
          rw [show 4503599627370496 = 2 ^ 52 from by decide, show 9007199254740992 * 9007199254740992 = 2 ^ 106 from by decide, show 8 = 2 ^ 3 from rfl, ← Nat.pow_add]
        rw [h6]
        exact Nat.mul_le_mul h5 (Nat.mul_le_mul_right _ (by decide)))
      omega
    have hw : fmul y y = s := fmul_val m1
    have hgs : rg s = s := by unfold rg; omega
    have hss : sg s = false := by rw [← word_false s]; exact sg_word _ _ (by omega)
    have hs0 : s ≠ 0 := by
      intro h
      subst h
      have := hr.2.2 (by omega)
      rw [rm_zero] at this
      have h9 : ((0 : Nat) : Rat) * pw (-1074) = 0 := by rw [show ((0 : Nat) : Rat) = 0 from rfl, Rat.zero_mul]
      rw [h9] at this
      have h7 : (0 : Rat) < (mid2 (1022 * 4503599627370496 + k - 1) : Rat) * pw (-1075) := Rat.mul_pos (by have : 0 < mid2 (1022 * 4503599627370496 + k - 1) := by { unfold mid2; have := rm_pos (r := 1022 * 4503599627370496 + k - 1 + 1) (by omega); omega }; exact_mod_cast this) (pw_pos _)
      have h8 := Rat.mul_pos h7 h7
      grind
    obtain ⟨r, q1, q2⟩ := sqrt_spec (a := s) (by unfold fin; omega) hss (by omega)
    have hfv : fv s = (rm s : Rat) * pw (-1074) := by unfold fv; rw [hss, hgs]; rfl
    rw [hfv] at q2
    have := q2.unique hr
    unfold sqrtF
    rw [hw, q1, this, hk]
    exact word_false _

theorem fv_pos {a : Nat} (h : sg a = false) : fv a = (rm (rg a) : Rat) * pw (-1074) := by unfold fv; rw [h]; rfl
theorem exact_rg {a : Nat} (h : fin a) : IsRnd ((rm (rg a) : Rat) * pw (-1074)) (rg a) := IsRnd.exact h
theorem ab_of {x : Rat} (h : 0 ≤ x) : ab x = x := by unfold ab; rw [if_neg (by grind)]
theorem fadd_ge {a b : Nat} (ha : fin a) (hb : fin b) (h1 : sg a = false) (h2 : sg b = false) : rg a ≤ rg (fadd a b) ∧ rg b ≤ rg (fadd a b) := by
  obtain ⟨r, m1, m2⟩ := add_spec ha hb
  have hr : rg (fadd a b) = r := by
    unfold fadd; rw [m1]; exact rg_word _ _ m2.lt63
  rw [hr]
  have n1 := fv_nonneg h1
  have n2 := fv_nonneg h2
  rw [ab_of (by grind)] at m2
  constructor
  · exact (exact_rg ha).mono m2 (by rw [← fv_pos h1]; grind)
  · exact (exact_rg hb).mono m2 (by rw [← fv_pos h2]; grind)
/-- Each part of a sum without signs is not above it. -/
theorem sumT_ge {t : Nat → Nat} {E : Int} (h1 : -1074 ≤ E) (h2 : E ≤ 971) : ∀ k : Nat, k ≤ 1000 → (∀ i, i < k → fin (t i) ∧ ab (fv (t i)) ≤ pw E ∧ sg (t i) = false) → ∀ i, i < k → rg (t i) ≤ rg (sumT t k) := by
  intro k
  induction k with
  | zero => intro _ _ i hi; omega
  | succ k ih =>
    intro hk ht i hi
    have a1 := sumT_sg h1 h2 k (by omega) (fun i hi => ht i (by omega))
    have a2 := (sumT_bd h1 h2 k (by omega) (fun i hi => ⟨(ht i (by omega)).1, (ht i (by omega)).2.1⟩)).1
    obtain ⟨b1, b2, b3⟩ := ht k (by omega)
    obtain ⟨g1, g2⟩ := fadd_ge a2 b1 a1 b3
    show rg (t i) ≤ rg (fadd (sumT t k) (t k))
    rcases (by omega : i < k ∨ i = k) with h | rfl
    · exact Nat.le_trans (ih (by omega) (fun i hi => ht i (by omega)) i h) g1
    · exact g2
theorem add_zero_l {a : Nat} (ha : fin a) (h : sg a = false) (hl : a < 18446744073709551616) : fadd 0 a = a := by
  have h0 : fin 0 := fin_zero
  have hv : fv 0 = 0 := by unfold fv; rw [show sg 0 = false from by decide, show rg 0 = 0 from by decide, rm_zero]; show ((0 : Nat) : Rat) * _ = 0; rw [show ((0 : Nat) : Rat) = 0 from rfl, Rat.zero_mul]
  obtain ⟨r, m1, m2⟩ := add_spec h0 ha
  have n2 := fv_nonneg h
  rw [hv, Rat.zero_add, ab_of n2, fv_pos h] at m2
  have hr := m2.unique (exact_rg ha)
  unfold fadd
  rw [m1, hv, Rat.zero_add]
  show D.word _ r = a
  have hs : sumSg (sg 0) (sg a) (fv a) = false := by
    unfold sumSg
    rw [h]
    split
    · simp
    · rw [decide_eq_false_iff_not]; grind
  rw [hs, hr, ← h]
  exact word_sg_rg a hl

theorem sqrtF_mono {a b : Nat} (ha : fin a) (hb : fin b) (h1 : sg a = false) (h2 : sg b = false) (h : rg a ≤ rg b) : rg (sqrtF a) ≤ rg (sqrtF b) := by
  by_cases h0 : rg a = 0
  · have e := sqrt_zero h0
    have : sqrtF a = D.word (sg a) 0 := by unfold sqrtF; rw [e]; rfl
    rw [this, rg_word _ _ (by decide)]
    exact Nat.zero_le _
  · obtain ⟨r, p1, p2⟩ := sqrt_spec ha h1 h0
    obtain ⟨s, q1, q2⟩ := sqrt_spec hb h2 (by omega)
    have e1 : sqrtF a = D.word false r := by unfold sqrtF; rw [p1]; rfl
    have e2 : sqrtF b = D.word false s := by unfold sqrtF; rw [q1]; rfl
    have hI := INF_eq
    have l1 := p2.1
    have l2 := q2.1
    rw [e1, e2, rg_word _ _ (by omega), rg_word _ _ (by omega)]
    exact p2.mono q2 (by rw [fv_pos h1, fv_pos h2]; exact unit_le.2 (rm_mono h))
theorem ldS_mono {a b : Nat} {k : Int} (h : rg a ≤ rg b) : rg (ldS a k) ≤ rg (ldS b k) := by
  have s1 := rr_spec (mul_pw_nonneg a k)
  have s2 := rr_spec (mul_pw_nonneg b k)
  unfold ldS
  rw [rg_word _ _ s1.lt63, rg_word _ _ s2.lt63]
  refine s1.mono s2 ?_
  rw [ab_fv, ab_fv]
  exact Rat.mul_le_mul_of_nonneg_right (unit_le.2 (rm_mono h)) (Rat.le_of_lt (pw_pos k))

/-- The greatest entry, scaled to its exponent, and back. -/
theorem top_scaled {x : Nat} (h0 : rg x ≠ 0) (hf : fin x) : rg (ldS x (-topS x)) = 4607182418800017408 + fracS x ∧ rg (ldS (rg (ldS x (-topS x))) (topS x)) = rg x := by
  have hl := fracS_lt h0
  have h1 : ldS x (-topS x) = zfl x 1023 := ldS_normal h0 (by decide) (by decide) (by omega)
  have hrg : rg (zfl x 1023) = 4607182418800017408 + fracS x := by
    unfold zfl
    rw [rg_word _ _ (by omega)]
  rw [h1, hrg]
  refine ⟨rfl, ?_⟩
  have hv := zfl_val h0 (E := 1023) (by decide)
  have hrr : rg (4607182418800017408 + fracS x) = 4607182418800017408 + fracS x := by unfold rg; omega
  have e : ab (fv (4607182418800017408 + fracS x)) * pw (topS x) = (rm (rg x) : Rat) * pw (-1074) := by
    rw [ab_fv, hrr, show 4607182418800017408 + fracS x = 1023 * 4503599627370496 + fracS x from by omega, hv, Rat.mul_assoc, ← pw_add, show ((1023 : Nat) : Int) - 1023 - topS x + topS x = 0 from by omega, pw_zero, Rat.mul_one, ab_fv]
  unfold ldS
  rw [e]
  have hr := (exact_rg hf).eq_rr (Rat.mul_nonneg Rat.natCast_nonneg (Rat.le_of_lt (pw_pos _)))
  rw [← hr, rg_word _ _ (rg_lt x)]

theorem most_at {xs : List Nat} : ∀ k, k ≤ xs.length → mostT xs k = 0 ∨ ∃ i, i < k ∧ rg (ge xs i) = mostT xs k := by
  intro k
  induction k with
  | zero => intro _; exact .inl rfl
  | succ k ih =>
    intro hk
    have e : mostT xs (k + 1) = max (mostT xs k) (rg (ge xs k)) := rfl
    rcases ih (by omega) with h | ⟨i, hi, h⟩
    · right; exact ⟨k, by omega, by omega⟩
    · rcases Nat.le_total (mostT xs k) (rg (ge xs k)) with h2 | h2
      · right; exact ⟨k, by omega, by omega⟩
      · right; exact ⟨i, by omega, by omega⟩

end Lev

/- KernMost in plain Lean, its law. -/
namespace Lev

theorem word_pos {s : Nat} (h : sg s = false) (hl : s < 18446744073709551616) : rg s = s := by
  have := word_sg_rg s hl
  rw [h, word_false] at this
  exact this
theorem flt_pos {s x : Nat} (hs : sg s = false) (hl : s < 18446744073709551616) (h : rg x ≤ rg s) : flt s (rg x) = false := by
  unfold flt
  rw [decide_eq_false_iff_not]
  rintro ⟨_, _, h3⟩
  rw [ord_rg] at h3
  have h4 := ord_rg s
  rw [word_pos hs hl] at h4 h
  rw [h4] at h3
  omega
theorem feq_refl {a : Nat} (h : fin a) : feq a a = true := by
  unfold feq fin at *
  rw [decide_eq_true_eq]
  exact ⟨by omega, by omega, rfl⟩

theorem sum_most {xs : List Nat} (h : allIn xs = true) (hl : xs.length ≤ 40) : (∀ i, i < xs.length → rg (ge xs i) ≤ rg (sumF xs)) ∧ sg (sumF xs) = false ∧ fin (sumF xs) ∧ sumF xs < 18446744073709551616 ∧ (xs.length = 1 → sumF xs = rg (ge xs 0)) := by
  have ht : ∀ i, i < xs.length → fin (absT xs i) ∧ ab (fv (absT xs i)) ≤ pw 400 ∧ sg (absT xs i) = false := fun i hi => ⟨(absT_bd h hi).1, (absT_bd h hi).2, sg_rg _⟩
  have e : sumF xs = sumT (absT xs) xs.length := by unfold sumF; rw [if_pos h]
  have b := sumT_bd (E := 400) (by decide) (by decide) xs.length (by omega) (fun i hi => absT_bd h hi)
  rw [e]
  refine ⟨fun i hi => ?_, sumT_sg (E := 400) (by decide) (by decide) xs.length (by omega) ht, b.1, b.2.2, fun h1 => ?_⟩
  · have := sumT_ge (E := 400) (by decide) (by decide) xs.length (by omega) ht i hi
    have e2 : rg (absT xs i) = rg (ge xs i) := rg_rg _
    rw [e2] at this; exact this
  · rw [h1]
    show fadd 0 (rg (ge xs 0)) = rg (ge xs 0)
    exact add_zero_l (ht 0 (by omega)).1 (sg_rg _) (Nat.lt_trans (rg_lt _) (by decide))

theorem norm_most {xs : List Nat} (h : allIn xs = true) (hl : xs.length ≤ 40) (h0 : mostT xs xs.length ≠ 0) :
    mostT xs xs.length ≤ rg (normF xs) ∧ sg (normF xs) = false ∧ normF xs < 18446744073709551616 ∧ (xs.length = 1 → normF xs = rg (ge xs 0)) := by
  obtain ⟨i, hi, hm⟩ := (most_at (xs := xs) xs.length (Nat.le_refl _)).resolve_left h0
  have hK : normK xs = topS (ge xs i) := by unfold normK; rw [← hm, topS_rg]
  have e : normF xs = ldS (sqrtF (sumT (sqT xs (normK xs)) xs.length)) (normK xs) := by unfold normF; rw [if_pos ⟨h, h0⟩]
  have hns := norm_sum h h0 (by omega)
  have hsq := sqrt_bd hns.1 hns.2.1 hns.2.2
  have hx0 : rg (ge xs i) ≠ 0 := by rw [hm]; exact h0
  have hnt := fun j (hj : j < xs.length) => norm_terms h h0 hj
  obtain ⟨t1, t2⟩ := top_scaled hx0 (hnt i hi).1
  have hfr := fracS_lt hx0
  have hy : scT xs (normK xs) i = ldS (ge xs i) (-topS (ge xs i)) := by unfold scT; rw [hK]
  have hroot := sqrt_sq (y := scT xs (normK xs) i) (by rw [hy, t1]; omega) (by rw [hy, t1]; omega)
  have hge := sumT_ge (t := sqT xs (normK xs)) (E := 2) (by decide) (by decide) xs.length (by omega) (fun j hj => ⟨(hnt j hj).2.2.2.1, (hnt j hj).2.2.2.2.1, (hnt j hj).2.2.2.2.2.1⟩) i hi
  have hmono := sqrtF_mono (hnt i hi).2.2.2.1 hns.1 (hnt i hi).2.2.2.2.2.1 hns.2.1 hge
  have e2 : sqrtF (sqT xs (normK xs) i) = rg (scT xs (normK xs) i) := hroot
  rw [e2] at hmono
  have hld := ldS_mono (k := normK xs) hmono
  rw [hy] at hld
  rw [hK] at hld
  rw [t2, hm] at hld
  have hs : sg (ldS (sqrtF (sumT (sqT xs (normK xs)) xs.length)) (normK xs)) = false := by
    have h2 := (rr_spec (mul_pw_nonneg (sqrtF (sumT (sqT xs (normK xs)) xs.length)) (normK xs))).lt63
    unfold ldS
    rw [sg_word _ _ h2]
    exact hsq.2.2.2
  rw [e]
  refine ⟨by rw [hK]; exact hld, hs, ldS_lt _ _, fun h1 => ?_⟩
  have hi0 : i = 0 := by omega
  subst hi0
  have hone : sumT (sqT xs (normK xs)) xs.length = sqT xs (normK xs) 0 := by
    rw [h1]
    show fadd 0 (sqT xs (normK xs) 0) = sqT xs (normK xs) 0
    exact add_zero_l (hnt 0 hi).2.2.2.1 (hnt 0 hi).2.2.2.2.2.1 (hnt 0 hi).2.2.2.2.2.2
  have hw := word_pos hs (ldS_lt _ _)
  rw [← hw, hone, e2, hy, hK, t2]

/-- KernMost's law. -/
theorem most_law {xs : List Nat} (h : allIn xs = true) (hl : xs.length ≤ 40) :
    (∀ i, i < xs.length → flt (sumF xs) (rg (ge xs i)) = false ∧ flt (normF xs) (rg (ge xs i)) = false) ∧
    (xs.length = 1 → feq (rg (ge xs 0)) (sumF xs) = true ∧ feq (sumF xs) (normF xs) = true) ∧
    feq (sumF xs) 0 = decide (mostT xs xs.length = 0) ∧ feq (normF xs) 0 = decide (mostT xs xs.length = 0) := by
  obtain ⟨s1, s2, s3, s4, s5⟩ := sum_most h hl
  by_cases h0 : mostT xs xs.length = 0
  · have hz : ∀ i, i < xs.length → rg (ge xs i) = 0 := fun i hi => by have := mostT_le (xs := xs) hi; omega
    have e : normF xs = 0 := by unfold normF; rw [if_neg (by simp [h0])]
    have hsum : sumF xs = 0 := by
      have e2 : sumF xs = sumT (absT xs) xs.length := by unfold sumF; rw [if_pos h]
      rw [e2]
      have : ∀ k, k ≤ xs.length → sumT (absT xs) k = 0 := by
        intro k
        induction k with
        | zero => intro _; rfl
        | succ k ih =>
          intro hk
          show fadd (sumT (absT xs) k) (rg (ge xs k)) = 0
          rw [ih (by omega), hz k (by omega)]
          decide +kernel
      exact this _ (Nat.le_refl _)
    rw [e, hsum, decide_eq_true h0]
    refine ⟨fun i hi => ?_, fun h1 => ?_, by decide, by decide⟩
    · rw [hz i hi]; decide
    · rw [hz 0 (by omega)]; decide
  · obtain ⟨n1, n2, n3, n4⟩ := norm_most h hl h0
    have hs0 : rg (sumF xs) ≠ 0 := by
      obtain ⟨i, hi, hm⟩ := (most_at (xs := xs) xs.length (Nat.le_refl _)).resolve_left h0
      have := s1 i hi
      omega
    refine ⟨fun i hi => ⟨flt_pos s2 s4 (s1 i hi), flt_pos n2 n3 (Nat.le_trans (mostT_le hi) n1)⟩, fun h1 => ?_, ?_, ?_⟩
    · rw [n4 h1, s5 h1]
      have hf : fin (rg (ge xs 0)) := fin_rg' (inS_bd (allIn_get h (k := 0) (by omega))).1
      exact ⟨feq_refl hf, feq_refl hf⟩
    · rw [feq_zero, decide_eq_false h0, decide_eq_false hs0]
    · rw [feq_zero, decide_eq_false h0, decide_eq_false (by omega)]

end Lev

/- Plain: rotations of numbers are made of numbers. -/
namespace Lev
open Ieee
def fsub (a b : Nat) : Nat := (D.sub a b).getD 0
def fdiv (a b : Nat) : Nat := (D.div a b).getD 0

theorem rnd_ge {v B : Rat} {r : Nat} (h : IsRnd v r) (hv : B ≤ v) (hB : rep B) : B ≤ (rm r : Rat) * pw (-1074) := by
  obtain ⟨R, hR, hB⟩ := hB
  have h1 := IsRnd.exact hR
  rw [hB] at h1
  have h2 := h1.mono h hv
  rw [← hB]
  exact unit_le.2 (rm_mono h2)

theorem fin_lt {s : Nat} (hs : fin s) : ab (fv s) ≤ pw 1024 := by
  rw [ab_fv, ← rm_inf]
  exact unit_le.2 (rm_mono (Nat.le_of_lt hs))

theorem sqrt_ok {s : Nat} (hs : fin s) (hg : sg s = false) : D.sqrt s = some (sqrtF s) ∧ fin (sqrtF s) ∧ sqrtF s < 18446744073709551616 ∧ sg (sqrtF s) = false := by
  have hI := INF_eq
  by_cases h0 : rg s = 0
  · have h1 := sqrt_zero h0
    have e : sqrtF s = D.word (sg s) 0 := by unfold sqrtF; rw [h1]; rfl
    rw [e, hg]
    exact ⟨by rw [h1, hg], fin_word (by omega), word_lt64 _ _ (by decide), sg_word _ _ (by decide)⟩
  · obtain ⟨r, h1, h2⟩ := sqrt_spec hs hg h0
    have e : sqrtF s = D.word false r := by unfold sqrtF; rw [h1]; rfl
    have hr : r < INF := by
      rcases Nat.lt_or_ge r INF with h | h
      · exact h
      · exfalso
        have hr : r = INF := Nat.le_antisymm h2.1 h
        subst hr
        have h3 := (h2.2.2 (by omega)).1
        have h4 : fv s ≤ pw 1024 := by
          have h5 : fv s = ab (fv s) := by unfold ab; rw [if_neg (by have := fv_nonneg hg; grind)]
          rw [h5]; exact fin_lt hs
        have h6 : pw 1023 ≤ (mid2 (INF - 1) : Rat) * pw (-1075) := by
          have a1 : ((rm INF : Nat) : Rat) ≤ (mid2 (INF - 1) : Rat) := by
            unfold mid2
            rw [show INF - 1 + 1 = INF from by omega]
            exact cast_le.2 (Nat.le_add_left _ _)
          have a2 := Rat.mul_le_mul_of_nonneg_right a1 (Rat.le_of_lt (pw_pos (-1075)))
          have a3 : (rm INF : Rat) * pw (-1075) = pw 1023 := by
            have := rm_inf
            rw [half_unit] at this
            have h8 := pw_double 1023
            rw [show (1023 : Int) + 1 = 1024 from rfl] at h8
            grind
          rw [a3] at a2; exact a2
        have h7 := sq_le (Rat.le_of_lt (pw_pos 1023)) h6
        have h8 : pw 1023 * pw 1023 = pw 2046 := by rw [← pw_add]; rfl
        have h9 : pw 1024 < pw 2046 := pw_lt (by decide)
        grind
    rw [e]
    exact ⟨h1, fin_word hr, word_lt64 _ _ (by omega), sg_word _ _ (by omega)⟩

theorem mid2_0 : mid2 0 = 1 := by decide
theorem rm_1 : rm 1 = 1 := by decide
theorem pos_ge {s : Nat} (h0 : rg s ≠ 0) : pw (-1074) ≤ ab (fv s) := by
  rw [ab_fv]
  have h1 : (1 : Nat) ≤ rm (rg s) := by have := rm_mono (r := 1) (s := rg s) (by omega); rwa [rm_1] at this
  have h2 := Rat.mul_le_mul_of_nonneg_right (cast_le.2 h1) (Rat.le_of_lt (pw_pos (-1074)))
  rwa [show ((1 : Nat) : Rat) = 1 from rfl, Rat.one_mul] at h2

theorem sqrt_pos {s : Nat} (hs : fin s) (hg : sg s = false) (h0 : rg s ≠ 0) : rg (sqrtF s) ≠ 0 := by
  have hI := INF_eq
  obtain ⟨r, h1, h2⟩ := sqrt_spec hs hg h0
  have e : sqrtF s = D.word false r := by unfold sqrtF; rw [h1]; rfl
  have l := h2.1
  rw [e, rg_word _ _ (by omega)]
  rintro rfl
  have h3 := (h2.2.1 (by omega)).1
  rw [mid2_0, show ((1 : Nat) : Rat) = 1 from rfl, Rat.one_mul, ← pw_add] at h3
  have h4 := pos_ge h0
  have h5 : fv s = ab (fv s) := (ab_of (fv_nonneg hg)).symm
  rw [h5] at h3
  have h6 : pw (-1075 + -1075) < pw (-1074) := pw_lt (by decide)
  grind

theorem sq_sg {a : Nat} (ha : fin a) : sg (fmul a a) = false := by
  obtain ⟨r, m1, m2⟩ := mul_spec ha ha
  unfold fmul
  rw [m1]
  show sg (D.word _ r) = false
  rw [sg_word _ _ m2.lt63, Bool.xor_self]

theorem mul_pos {a : Nat} (ha : fin a) (h : pw (-74) ≤ ab (fv a)) : rg (fmul a a) ≠ 0 := by
  obtain ⟨r, m1, m2⟩ := mul_spec ha ha
  have e : fmul a a = D.word (sg a ^^ sg a) r := by unfold fmul; rw [m1]; rfl
  rw [e, rg_word _ _ m2.lt63]
  rintro rfl
  rw [ab_mul] at m2
  have h1 := sq_le (Rat.le_of_lt (pw_pos _)) h
  have h2 := rnd_ge m2 h1 (by rw [← pw_add]; exact rep_pw1 (by decide) (by decide))
  rw [rm_zero, show ((0 : Nat) : Rat) = 0 from rfl, Rat.zero_mul, ← pw_add] at h2
  have := pw_pos (-74 + -74)
  grind

/-- The power of two by which both are scaled. -/
def rotK (f g : Nat) : Int := max (-1000) (min 1000 (max (topB f) (topB g)))
def rotA (f g : Nat) : Nat := ldS f (-rotK f g)
def rotB (f g : Nat) : Nat := ldS g (-rotK f g)
def rotS (f g : Nat) : Nat := fadd (fmul (rotA f g) (rotA f g)) (fmul (rotB f g) (rotB f g))
def rotH (f g : Nat) : Nat := sqrtF (rotS f g)
def rotR (f g : Nat) : Nat := ldS (rotH f g) (rotK f g)

theorem rotK_bd (f g : Nat) : -1000 ≤ rotK f g ∧ rotK f g ≤ 1000 := by unfold rotK; omega
theorem topB_top {x : Nat} (hf : fin x) (h : rg x ≠ 0) : topB x = topS x := by unfold topB; rw [if_pos (kindS_fin hf h)]

theorem scaled_bd {x : Nat} {K : Int} (hK : rg x ≠ 0 → topS x ≤ K + 23) : fin (ldS x (-K)) ∧ ab (fv (ldS x (-K))) ≤ pw 24 ∧ sg (ldS x (-K)) = sg x := by
  refine ldS_bd ?_ (rep_pw1 (by decide) (by decide))
  by_cases h0 : rg x = 0
  · rw [ab_fv, h0, rm_zero, show ((0 : Nat) : Rat) = 0 from rfl, Rat.zero_mul, Rat.zero_mul]
    exact Rat.le_of_lt (pw_pos _)
  · have h1 := hK h0
    exact Rat.le_trans (Rat.le_of_lt (mul_pw_lt h0)) (pw_le (by omega))
theorem scaled_ge {x : Nat} {K : Int} (h0 : rg x ≠ 0) (hK : K ≤ topS x + 74) : pw (-74) ≤ ab (fv (ldS x (-K))) := by
  have h1 := rr_spec (mul_pw_nonneg x (-K))
  have h2 := rnd_ge (B := pw (-74)) h1 (Rat.le_trans (pw_le (by omega)) (mul_pw_ge h0)) (rep_pw1 (by decide) (by decide))
  unfold ldS
  rw [ab_fv, rg_word _ _ h1.lt63]
  exact h2

theorem rot_facts {f g : Nat} (hf : fin f) (hg : fin g) (h0 : ¬ (rg f = 0 ∧ rg g = 0)) :
    fin (rotA f g) ∧ fin (rotB f g) ∧ D.mul f (makeF false 1 (-rotK f g)) = some (rotA f g) ∧ D.mul g (makeF false 1 (-rotK f g)) = some (rotB f g) ∧
    D.mul (rotA f g) (rotA f g) = some (fmul (rotA f g) (rotA f g)) ∧ D.mul (rotB f g) (rotB f g) = some (fmul (rotB f g) (rotB f g)) ∧
    D.add (fmul (rotA f g) (rotA f g)) (fmul (rotB f g) (rotB f g)) = some (rotS f g) ∧ D.sqrt (rotS f g) = some (rotH f g) ∧ D.mul (rotH f g) (makeF false 1 (rotK f g)) = some (rotR f g) ∧
    D.div (rotA f g) (rotH f g) = some (fdiv (rotA f g) (rotH f g)) ∧ D.div (rotB f g) (rotH f g) = some (fdiv (rotB f g) (rotH f g)) := by
  have hK := rotK_bd f g
  have tf : rg f ≠ 0 → topS f ≤ rotK f g + 23 := fun h => by
    have h1 := topB_top hf h; have h2 := topS_hi hf; unfold rotK; omega
  have tg : rg g ≠ 0 → topS g ≤ rotK f g + 23 := fun h => by
    have h1 := topB_top hg h; have h2 := topS_hi hg; unfold rotK; omega
  have A := scaled_bd tf
  have B := scaled_bd tg
  have eA : ldS f (-rotK f g) = rotA f g := rfl
  have eB : ldS g (-rotK f g) = rotB f g := rfl
  rw [eA] at A; rw [eB] at B
  obtain ⟨A1, A2, A3⟩ := A
  obtain ⟨B1, B2, B3⟩ := B
  have p48 : pw 24 * pw 24 = pw 48 := by rw [← pw_add]; rfl
  have r48 : rep (pw 48) := rep_pw1 (by decide) (by decide)
  have QA := mul_bd (B := pw 48) A1 A1 (by rw [← p48]; exact Rat.le_trans (Rat.mul_le_mul_of_nonneg_left A2 (ab_nonneg _)) (Rat.mul_le_mul_of_nonneg_right A2 (Rat.le_of_lt (pw_pos _)))) r48
  have QB := mul_bd (B := pw 48) B1 B1 (by rw [← p48]; exact Rat.le_trans (Rat.mul_le_mul_of_nonneg_left B2 (ab_nonneg _)) (Rat.mul_le_mul_of_nonneg_right B2 (Rat.le_of_lt (pw_pos _)))) r48
  have sA := sq_sg A1
  have sB := sq_sg B1
  have S := add_bd (B := pw 49) QA.2.1 QB.2.1 (by have h := pw_double 48; rw [show (48 : Int) + 1 = 49 from rfl] at h; have h1 := QA.2.2.1; have h2 := QB.2.2.1; grind) (rep_pw1 (by decide) (by decide))
  have sS := fadd_sg QA.2.1 QB.2.1 sA sB
  have hS : fadd (fmul (rotA f g) (rotA f g)) (fmul (rotB f g) (rotB f g)) = rotS f g := rfl
  rw [hS] at S sS
  have H := sqrt_ok S.2.1 sS
  have hH : sqrtF (rotS f g) = rotH f g := rfl
  have hne : rg (rotS f g) ≠ 0 := by
    have hge := fadd_ge QA.2.1 QB.2.1 sA sB
    rw [hS] at hge
    by_cases hc : topB f ≤ topB g ∧ rg g ≠ 0
    · have h1 := topB_top hg hc.2
      have h2 := topS_lo g
      have h3 := mul_pos B1 (scaled_ge hc.2 (by unfold rotK; omega))
      omega
    · have h3 : rg f ≠ 0 := fun h => by
        by_cases h4 : rg g = 0
        · exact h0 ⟨h, h4⟩
        · have h5 := topB_top hg h4
          have h6 := topS_lo g
          have h7 : topB f = -2000 := topB_no (by rw [kindS_zero h]; decide)
          exact hc ⟨by omega, h4⟩
      have h1 := topB_top hf h3
      have h2 := topS_lo f
      have h8 : topB g ≤ topB f := by
        by_cases h4 : rg g = 0
        · have h7 : topB g = -2000 := topB_no (by rw [kindS_zero h4]; decide)
          omega
        · rcases Int.lt_or_le (topB f) (topB g) with h | h
          · exact absurd ⟨Int.le_of_lt h, h4⟩ hc
          · exact h
      have h9 := mul_pos A1 (scaled_ge h3 (by unfold rotK; omega))
      omega
  have hpos := sqrt_pos S.2.1 sS hne
  rw [hH] at H hpos
  obtain ⟨d1, e1, _⟩ := div_spec A1 H.2.1 hpos
  obtain ⟨d2, e2, _⟩ := div_spec B1 H.2.1 hpos
  exact ⟨A1, B1, mul_pow2 hf (by omega) (by omega), mul_pow2 hg (by omega) (by omega), QA.1, QB.1, S.1, H.1, mul_pow2 H.2.1 (by omega) (by omega), by unfold fdiv; rw [e1]; rfl, by unfold fdiv; rw [e2]; rfl⟩

end Lev

/- Plain: hyperbolic rotations. -/
namespace Lev
open Ieee

theorem div_zero {a b : Nat} (ha : fin a) (h0 : rg a ≠ 0) (hb : rg b = 0) : D.div a b = some (D.word (sg a ^^ sg b) INF) := by
  obtain ⟨m, i, h1, h2, hz1⟩ := read_fin ha
  have hI := INF_eq
  obtain ⟨n, j, h3, h4, hz2⟩ := read_fin (b := b) (by unfold fin; omega)
  have hn : n = 0 := hz2.2 hb
  have hm : m ≠ 0 := fun h => h0 (hz1.1 h)
  subst hn
  unfold Format.div
  rw [h1, h3, D_fb]
  unfold Datum.quotient
  simp only [if_true, if_neg hm]
  simp only [Option.map_some, Option.some.injEq]
  unfold Format.write
  rw [← D_inf]

def oneF : Nat := 4607182418800017408
theorem oneF_eq : oneF = 4607182418800017408 := rfl
theorem fin_one : fin oneF := by decide
theorem fvOne : fv oneF = 1 := by rw [oneF_eq, c0, pw_zero]
theorem sg_one : sg oneF = false := by decide
theorem rg_one : rg oneF = oneF := by decide

def hypS (r x : Nat) : Nat := fdiv x r
def hypC (r x : Nat) : Nat := sqrtF (fmul (fsub oneF (hypS r x)) (fadd oneF (hypS r x)))
def hypB (r x : Nat) : Bool := decide (rg r ≠ 0 ∧ rg (hypS r x) < oneF)

theorem hypS_spec {r x : Nat} (hr : fin r) (hx : fin x) (h0 : rg r ≠ 0) : D.div x r = some (hypS r x) ∧ hypS r x < 18446744073709551616 ∧ rg (hypS r x) ≤ INF ∧ sg (hypS r x) = (sg x ^^ sg r) ∧ IsRnd (ab (fv x) / ab (fv r)) (rg (hypS r x)) := by
  obtain ⟨d, e, hd⟩ := div_spec hx hr h0
  have hs : hypS r x = D.word (sg x ^^ sg r) d := by unfold hypS fdiv; rw [e]; rfl
  rw [hs]
  exact ⟨e, word_lt64 _ _ hd.lt63, by rw [rg_word _ _ hd.lt63]; exact hd.le, sg_word _ _ hd.lt63, by rw [rg_word _ _ hd.lt63]; exact hd⟩

theorem lt_one {s : Nat} (h : rg s < oneF) : ab (fv s) < 1 := by
  have h1 : ab (fv oneF) = 1 := by rw [fvOne]; decide +kernel
  rw [← h1, ab_fv, ab_fv, rg_one]
  exact unit_lt.2 (rm_strict h)
theorem ab_le {x : Rat} : x ≤ ab x ∧ -x ≤ ab x := by unfold ab; split <;> constructor <;> grind

theorem one_sub {s : Nat} (h : rg s < oneF) : D.sub oneF s = some (fsub oneF s) ∧ fin (fsub oneF s) ∧ sg (fsub oneF s) = false ∧ ab (fv (fsub oneF s)) ≤ pw 1 ∧ IsRnd (1 - fv s) (rg (fsub oneF s)) := by
  have hI := INF_eq
  have h1 := lt_one h
  obtain ⟨h2, h3⟩ := ab_le (x := fv s)
  have hs : fin s := by unfold fin; rw [oneF_eq] at h; omega
  obtain ⟨d, e, hd⟩ := sub_spec fin_one hs
  rw [fvOne, ab_of (by grind)] at hd
  have hsg : sumSg (sg oneF) (!sg s) (fv oneF - fv s) = false := by
    unfold sumSg
    rw [fvOne, if_neg (by grind), decide_eq_false_iff_not]
    grind
  rw [hsg] at e
  have hb := rnd_le (B := pw 1) hd (by have := pw_double 0; rw [pw_zero, show (0 : Int) + 1 = 1 from rfl] at this; grind) (rep_pw1 (by decide) (by decide))
  have hf : fsub oneF s = D.word false d := by unfold fsub; rw [e]; rfl
  rw [hf]
  exact ⟨e, fin_word hb.1, sg_word _ _ hd.lt63, by rw [ab_word hb.1]; exact hb.2, by rw [rg_word _ _ hd.lt63]; exact hd⟩
theorem one_add {s : Nat} (h : rg s < oneF) : D.add oneF s = some (fadd oneF s) ∧ fin (fadd oneF s) ∧ sg (fadd oneF s) = false ∧ ab (fv (fadd oneF s)) ≤ pw 1 ∧ IsRnd (1 + fv s) (rg (fadd oneF s)) := by
  have hI := INF_eq
  have h1 := lt_one h
  obtain ⟨h2, h3⟩ := ab_le (x := fv s)
  have hs : fin s := by unfold fin; rw [oneF_eq] at h; omega
  obtain ⟨d, e, hd⟩ := add_spec fin_one hs
  rw [fvOne, ab_of (by grind)] at hd
  have hsg : sumSg (sg oneF) (sg s) (fv oneF + fv s) = false := by
    unfold sumSg
    rw [fvOne, if_neg (by grind), decide_eq_false_iff_not]
    grind
  rw [hsg] at e
  have hb := rnd_le (B := pw 1) hd (by have := pw_double 0; rw [pw_zero, show (0 : Int) + 1 = 1 from rfl] at this; grind) (rep_pw1 (by decide) (by decide))
  have hf : fadd oneF s = D.word false d := by unfold fadd; rw [e]; rfl
  rw [hf]
  exact ⟨e, fin_word hb.1, sg_word _ _ hd.lt63, by rw [ab_word hb.1]; exact hb.2, by rw [rg_word _ _ hd.lt63]; exact hd⟩

theorem hyp_facts {s : Nat} (h : rg s < oneF) : D.sub oneF s = some (fsub oneF s) ∧ D.add oneF s = some (fadd oneF s) ∧ D.mul (fsub oneF s) (fadd oneF s) = some (fmul (fsub oneF s) (fadd oneF s)) ∧
    D.sqrt (fmul (fsub oneF s) (fadd oneF s)) = some (sqrtF (fmul (fsub oneF s) (fadd oneF s))) ∧ fin (fmul (fsub oneF s) (fadd oneF s)) ∧ sg (fmul (fsub oneF s) (fadd oneF s)) = false := by
  have a := one_sub h
  have b := one_add h
  have m := mul_bd (B := pw 2) a.2.1 b.2.1 (by rw [show pw 2 = pw 1 * pw 1 from by rw [← pw_add]; rfl]; exact Rat.le_trans (Rat.mul_le_mul_of_nonneg_left b.2.2.2.1 (ab_nonneg _)) (Rat.mul_le_mul_of_nonneg_right a.2.2.2.1 (Rat.le_of_lt (pw_pos _)))) (rep_pw1 (by decide) (by decide))
  have s : sg (fmul (fsub oneF s) (fadd oneF s)) = false := by
    obtain ⟨r, m1, m2⟩ := mul_spec a.2.1 b.2.1
    unfold fmul
    rw [m1]
    show sg (D.word _ r) = false
    rw [sg_word _ _ m2.lt63, a.2.2.1, b.2.2.1]; rfl
  exact ⟨a.1, b.1, m.1, (sqrt_ok m.2.1 s).1, m.2.1, s⟩

/-- The tests of the code and of the document come to the same. -/
theorem test_code {s : Nat} : flt (rg s) oneF = decide (rg s < oneF) := by
  have hI := INF_eq
  have h1 := oneF_eq
  unfold flt
  rw [rg_rg, rg_one, ord_rg, show ord oneF = oneF from by decide, decide_eq_decide]
  omega
theorem test_doc {s : Nat} : (flt 13830554455654793216 s && flt s oneF) = decide (rg s < oneF) := by
  have hI := INF_eq
  have h1 := oneF_eq
  unfold flt
  rw [show rg 13830554455654793216 = oneF from by decide, rg_one, show ord oneF = oneF from by decide, show ord 13830554455654793216 = -oneF from by decide, ← Bool.decide_and, decide_eq_decide]
  unfold ord
  split <;> omega

end Lev
