/- Triangles that are packed row by row: whether a factor may be, in plain numbers and lists. -/
import Derived.Test.YtcoaachajdomcaaFi
namespace Lev

/-- Is a float a number, and not too large? -/
def small (x : Nat) : Bool := decide (rg x ≤ 6498694262295625728)

/-- Where row k begins, of N rows, the first of N entries. -/
def st (N : Nat) : Nat → Nat
  | 0 => 0
  | k + 1 => st N k + (N - k)

def sizeI (cols : Int) : Int := if cols < 1 ∨ 6 < cols then 0 else (cols + 1) * (cols + 2) / 2

/-- Is row k as it may be? -/
def rowOk (N : Nat) (xs : List Nat) (k : Nat) : Bool := !sg (xs[st N k]?.getD 0) && ((xs.drop (st N k)).take (N - k)).all small
def rowsOk (N : Nat) (xs : List Nat) : Bool := (List.range N).all (rowOk N xs)
def headOk (C : Int) (n : Nat) (R T : Int) : Bool := decide (1 ≤ C ∧ C ≤ 6 ∧ (n : Int) = sizeI C ∧ 0 ≤ R ∧ R ≤ 200 ∧ 0 ≤ T ∧ T ≤ 4096)
/-- May a factor be? -/
def checkS (C : Int) (xs : List Nat) (R T : Int) : Bool := headOk C xs.length R T && rowsOk (C + 1).toNat xs

theorem st_le {N : Nat} : ∀ {k m : Nat}, k ≤ m → st N k ≤ st N m := by
  intro k m h
  induction m with
  | zero => have : k = 0 := by omega
            subst this; exact Nat.le_refl _
  | succ m ih =>
    by_cases hk : k = m + 1
    · subst hk; exact Nat.le_refl _
    · have := ih (by omega)
      simp only [st]; omega
theorem st_succ (N k : Nat) : st N (k + 1) = st N k + (N - k) := rfl
theorem st_twice (N : Nat) : ∀ k, k ≤ N → 2 * st N k + k * k = 2 * (k * N) + k := by
  intro k hk
  induction k with
  | zero => simp [st]
  | succ k ih =>
    have h1 := ih (by omega)
    rw [st_succ, Nat.mul_add]
    have h2 : (k + 1) * (k + 1) = k * k + 2 * k + 1 := by rw [Nat.add_mul, Nat.mul_add]; omega
    have h3 : (k + 1) * N = k * N + N := by rw [Nat.add_mul, Nat.one_mul]
    rw [h2, h3]
    omega
theorem st_all (N : Nat) : 2 * st N N = N * N + N := by have := st_twice N N (Nat.le_refl N); omega
/-- Each place lies in a row. -/
theorem st_find {N j : Nat} : ∀ m, j < st N m → ∃ k, k < m ∧ st N k ≤ j ∧ j < st N (k + 1) := by
  intro m
  induction m with
  | zero => intro h; simp [st] at h
  | succ m ih =>
    intro h
    by_cases h1 : j < st N m
    · obtain ⟨k, hk, h2⟩ := ih h1
      exact ⟨k, by omega, h2⟩
    · exact ⟨m, by omega, by omega, h⟩

theorem size_st {C : Int} {N : Nat} (h1 : 1 ≤ C) (h2 : C ≤ 6) (hN : (N : Int) = C + 1) : sizeI C = (st N N : Int) := by
  have := st_all N
  unfold sizeI
  rw [if_neg (by omega)]
  rcases (by omega : C = 1 ∨ C = 2 ∨ C = 3 ∨ C = 4 ∨ C = 5 ∨ C = 6) with h | h | h | h | h | h
  all_goals
    subst h
    obtain rfl : N = _ := by first | exact (by omega : N = 2) | exact (by omega : N = 3) | exact (by omega : N = 4) | exact (by omega : N = 5) | exact (by omega : N = 6) | exact (by omega : N = 7)
    decide

theorem row_mem {N k j : Nat} {xs : List Nat} : (xs[st N k + j]?.getD 0 ∈ (xs.drop (st N k)).take (N - k)) ∨ ¬ (j < N - k ∧ st N k + j < xs.length) := by
  by_cases h : j < N - k ∧ st N k + j < xs.length
  · left
    obtain ⟨h1, h2⟩ := h
    have e : xs[st N k + j]?.getD 0 = xs[st N k + j] := by rw [List.getElem?_eq_getElem h2]; rfl
    rw [e, List.mem_iff_getElem]
    refine ⟨j, by simp; omega, ?_⟩
    simp
  · exact .inr h

theorem rowsOk_iff {N : Nat} {xs : List Nat} (hl : xs.length = st N N) : rowsOk N xs = true ↔ (∀ j, j < xs.length → small (xs[j]?.getD 0) = true) ∧ (∀ i, i < N → sg (xs[st N i]?.getD 0) = false) := by
  unfold rowsOk
  rw [List.all_eq_true]
  constructor
  · intro h
    refine ⟨fun j hj => ?_, fun i hi => ?_⟩
    · rw [hl] at hj
      obtain ⟨k, hk, h1, h2⟩ := st_find N hj
      have h3 := h k (List.mem_range.2 hk)
      unfold rowOk at h3
      rw [Bool.and_eq_true, List.all_eq_true] at h3
      rw [st_succ] at h2
      obtain ⟨d, rfl⟩ : ∃ d, j = st N k + d := ⟨j - st N k, by omega⟩
      rcases row_mem (N := N) (k := k) (j := d) (xs := xs) with h4 | h4
      · exact h3.2 _ h4
      · exact absurd ⟨by omega, by omega⟩ h4
    · have h3 := h i (List.mem_range.2 hi)
      unfold rowOk at h3
      rw [Bool.and_eq_true] at h3
      simpa using h3.1
  · rintro ⟨h1, h2⟩ k hk
    rw [List.mem_range] at hk
    unfold rowOk
    rw [Bool.and_eq_true, List.all_eq_true]
    refine ⟨by rw [h2 k hk]; rfl, fun x hx => ?_⟩
    rw [List.mem_iff_getElem] at hx
    obtain ⟨j, hj, rfl⟩ := hx
    simp at hj
    have hj2 : st N k + j < xs.length := by omega
    have h4 := h1 (st N k + j) hj2
    rw [List.getElem?_eq_getElem hj2] at h4
    simpa using h4

theorem small_fin {x : Nat} (h : small x = true) : fin x := by
  unfold small at h
  rw [decide_eq_true_eq] at h
  unfold fin; have := INF_eq; omega

end Lev
