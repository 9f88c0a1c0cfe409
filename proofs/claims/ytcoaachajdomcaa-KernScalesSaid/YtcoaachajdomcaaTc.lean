/- Places, entries, rows of a triangle, and a row set, in plain numbers and lists. -/
import Derived.Test.YtcoaachajdomcaaTb
namespace Lev

def atB (C i j : Int) : Bool := decide (1 ≤ C ∧ C ≤ 6 ∧ 0 ≤ i ∧ i ≤ j ∧ j ≤ C)
/-- The place of an entry. -/
def atI (C i j : Int) : Int := if atB C i j = true then (st (C + 1).toNat i.toNat : Int) + (j - i) else 0
/-- What is got. -/
def getS (f : Fct) (i j : Int) : Nat := if atB f.C i j && f.ok then f.xs[(atI f.C i j).toNat]?.getD 0 else 0
def hasS (f : Fct) (i : Int) : Bool := f.ok && decide (0 ≤ i ∧ i ≤ f.C)
/-- A row. -/
def lineS (f : Fct) (i : Int) : List Nat := if hasS f i = true then List.replicate i.toNat 0 ++ (f.xs.drop (st (f.C + 1).toNat i.toNat)).take ((f.C + 1).toNat - i.toNat) else []
/-- A new one. -/
def newS (C : Int) : Fct := if sizeI C = 0 then Fct.zero else ⟨C, List.replicate (sizeI C).toNat 0, 0, 0⟩
def newE (C : Int) : Int := if sizeI C = 0 then 1 else 0
/-- Entry p behind the setting of row i. -/
def setP (N i : Nat) (l xs : List Nat) (p : Nat) : Nat := if st N i ≤ p ∧ p < st N (i + 1) then l[i + (p - st N i)]?.getD 0 else xs[p]?.getD 0
def setL (N i : Nat) (l xs : List Nat) : List Nat := (List.range xs.length).map (setP N i l xs)
def setB (f : Fct) (i : Int) (l : List Nat) : Bool := hasS f i && decide ((l.length : Int) = f.C + 1) && checkS f.C (setL (f.C + 1).toNat i.toNat l f.xs) f.R f.T
def setF (f : Fct) (i : Int) (l : List Nat) : Fct := if setB f i l = true then ⟨f.C, setL (f.C + 1).toNat i.toNat l f.xs, f.R, f.T⟩ else Fct.zero

theorem map_get {n p : Nat} (h : p < n) (g : Nat → Nat) : ((List.range n).map g)[p]?.getD 0 = g p := by
  rw [List.getElem?_map, List.getElem?_range h]; rfl
theorem setL_length (N i : Nat) (l xs : List Nat) : (setL N i l xs).length = xs.length := by unfold setL; rw [List.length_map, List.length_range]
theorem setL_get {N i p : Nat} {l xs : List Nat} (h : p < xs.length) : (setL N i l xs)[p]?.getD 0 = setP N i l xs p := map_get h _

theorem list_ext {a b : List Nat} (h : a.length = b.length) (h2 : ∀ p, p < a.length → a[p]?.getD 0 = b[p]?.getD 0) : a = b := by
  refine List.ext_getElem h fun p h3 h4 => ?_
  have := h2 p h3
  rw [List.getElem?_eq_getElem h3, List.getElem?_eq_getElem h4] at this
  exact this

theorem atB_iff {C i j : Int} : atB C i j = true ↔ 1 ≤ C ∧ C ≤ 6 ∧ 0 ≤ i ∧ i ≤ j ∧ j ≤ C := by unfold atB; rw [decide_eq_true_eq]
theorem hasS_iff {f : Fct} {i : Int} : hasS f i = true ↔ f.ok = true ∧ 0 ≤ i ∧ i ≤ f.C := by unfold hasS; rw [Bool.and_eq_true, decide_eq_true_eq]

theorem st_mono {N k m : Nat} (h : k ≤ m) : st N k ≤ st N m := st_le h
/-- A place is below the end of its row. -/
theorem st_end {N i : Nat} (h : i < N) : st N (i + 1) ≤ st N N := st_le (by omega)
theorem st_in {N i d : Nat} (h : i < N) (hd : d < N - i) : st N i + d < st N N := by
  have h1 := st_end h; rw [st_succ] at h1; omega

theorem ok_len {f : Fct} (h : f.ok = true) : 1 ≤ f.C ∧ f.C ≤ 6 ∧ f.xs.length = st (f.C + 1).toNat (f.C + 1).toNat ∧ 0 ≤ f.R ∧ f.R ≤ 200 ∧ 0 ≤ f.T ∧ f.T ≤ 4096 ∧ f.xs.length ≤ 28 ∧ rowsOk (f.C + 1).toNat f.xs = true := check_len h

theorem lineS_length {f : Fct} {i : Int} (h : hasS f i = true) : (lineS f i).length = (f.C + 1).toNat := by
  unfold lineS
  rw [if_pos h]
  obtain ⟨h1, h2, h3⟩ := hasS_iff.1 h
  have h4 := (ok_len h1).2.2.1
  have h5 := st_end (N := (f.C + 1).toNat) (i := i.toNat) (by omega)
  rw [st_succ] at h5
  rw [List.length_append, List.length_replicate, List.length_take, List.length_drop]
  omega
theorem lineS_get {f : Fct} {i : Int} (h : hasS f i = true) {j : Nat} (hj : j < (f.C + 1).toNat) : (lineS f i)[j]?.getD 0 = getS f i j := by
  obtain ⟨h1, h2, h3⟩ := hasS_iff.1 h
  have hl := ok_len h1
  have h4 := hl.2.2.1
  have h5 := st_end (N := (f.C + 1).toNat) (i := i.toNat) (by omega)
  rw [st_succ] at h5
  unfold lineS getS
  rw [if_pos h, h1, Bool.and_true]
  by_cases hij : j < i.toNat
  · have hb : atB f.C i j = false := by unfold atB; rw [decide_eq_false_iff_not]; omega
    rw [hb, if_neg (by decide), List.getElem?_append_left (by rw [List.length_replicate]; exact hij), List.getElem?_replicate_of_lt hij]; rfl
  · have hb : atB f.C i j = true := atB_iff.2 (by omega)
    rw [hb, if_pos rfl]
    unfold atI
    rw [if_pos hb, List.getElem?_append_right (by rw [List.length_replicate]; omega), List.length_replicate, List.getElem?_take_of_lt (by omega), List.getElem?_drop]
    have e : ((st (f.C + 1).toNat i.toNat : Int) + ((j : Int) - i)).toNat = st (f.C + 1).toNat i.toNat + (j - i.toNat) := by omega
    rw [e]
/-- The row as the document's answer makes it. -/
theorem lineS_range {f : Fct} {i : Int} (h : hasS f i = true) : (List.range (f.C + 1).toNat).map (fun j : Nat => getS f i j) = lineS f i := by
  refine list_ext (by rw [List.length_map, List.length_range, lineS_length h]) fun p hp => ?_
  rw [List.length_map, List.length_range] at hp
  rw [map_get hp, lineS_get h hp]

theorem zero_small : small 0 = true := by decide +kernel
theorem zero_sg : sg 0 = false := by decide +kernel

/-- A new factor may be. -/
theorem new_check {C : Int} (h1 : 1 ≤ C) (h2 : C ≤ 6) : checkS C (List.replicate (sizeI C).toNat 0) 0 0 = true := by
  have h9 := size_st (N := (C + 1).toNat) h1 h2 (by omega)
  unfold checkS headOk
  rw [Bool.and_eq_true, decide_eq_true_eq, List.length_replicate]
  have hz : ∀ j, (List.replicate (sizeI C).toNat 0)[j]?.getD 0 = 0 := fun j => by
    rw [List.getElem?_replicate]; split <;> rfl
  refine ⟨⟨h1, h2, by omega, by omega, by omega, by omega, by omega⟩, (rowsOk_iff (by rw [List.length_replicate]; omega)).2 ⟨fun j _ => ?_, fun i _ => ?_⟩⟩
  · rw [hz]; exact zero_small
  · rw [hz]; exact zero_sg

theorem getS_lt {f : Fct} (hx : ∀ x ∈ f.xs, x < 18446744073709551616) (i j : Int) : getS f i j < 18446744073709551616 := by
  unfold getS
  split
  · cases h : f.xs[(atI f.C i j).toNat]? with
    | none => decide
    | some v => exact hx v (List.mem_of_getElem? h)
  · decide

/-- What is set is got, all else is as it was. -/
theorem set_get {f : Fct} {i : Int} {l : List Nat} (h : setB f i l = true) {row col : Int} (hr : 0 ≤ row) (hr2 : row ≤ f.C) (hc : 0 ≤ col) (hc2 : col ≤ f.C) :
    getS (setF f i l) row col = if row = i ∧ i ≤ col then l[col.toNat]?.getD 0 else getS f row col := by
  have h' := h
  unfold setB at h'
  rw [Bool.and_eq_true, Bool.and_eq_true, decide_eq_true_eq] at h'
  obtain ⟨⟨h1, h2⟩, h3⟩ := h'
  obtain ⟨h4, h5, h6⟩ := hasS_iff.1 h1
  have hl := ok_len h4
  have h7 := hl.2.2.1
  have hF : setF f i l = ⟨f.C, setL (f.C + 1).toNat i.toNat l f.xs, f.R, f.T⟩ := if_pos h
  have hok : (setF f i l).ok = true := by rw [hF]; exact h3
  unfold getS
  rw [hok, h4, Bool.and_true, Bool.and_true, hF]
  by_cases hrc : row ≤ col
  · have hb : atB f.C row col = true := atB_iff.2 (by omega)
    dsimp only
    rw [hb, if_pos rfl, if_pos rfl]
    have hat : (atI f.C row col).toNat = st (f.C + 1).toNat row.toNat + (col.toNat - row.toNat) := by
      unfold atI; rw [if_pos hb]; omega
    have hlt := st_in (N := (f.C + 1).toNat) (i := row.toNat) (d := col.toNat - row.toNat) (by omega) (by omega)
    rw [hat, setL_get (by omega)]
    unfold setP
    have hs1 := st_succ (f.C + 1).toNat i.toNat
    have hs2 := st_succ (f.C + 1).toNat row.toNat
    by_cases hri : row = i
    · subst hri
      rw [if_pos (by omega), if_pos (by omega)]
      congr 2; omega
    · rw [if_neg (c := row = i ∧ i ≤ col) (by omega)]
      have hne : ¬ (st (f.C + 1).toNat i.toNat ≤ st (f.C + 1).toNat row.toNat + (col.toNat - row.toNat) ∧ st (f.C + 1).toNat row.toNat + (col.toNat - row.toNat) < st (f.C + 1).toNat (i.toNat + 1)) := by
        rcases (by omega : row.toNat + 1 ≤ i.toNat ∨ i.toNat + 1 ≤ row.toNat) with h8 | h8
        · have := st_le (N := (f.C + 1).toNat) h8; omega
        · have := st_le (N := (f.C + 1).toNat) h8; omega
      rw [if_neg hne]
  · have hb : atB f.C row col = false := by unfold atB; rw [decide_eq_false_iff_not]; omega
    dsimp only
    rw [hb, if_neg (by decide), if_neg (by omega), if_neg (by decide)]

/-- The row that is set at step k. -/
def ixS (C half : Int) (k : Nat) : Nat := if 1 ≤ half ∧ half ≤ C then (k + half.toNat) % (C + 1).toNat else k
/-- What the lines come to, one behind the other. -/
def lnS (f : Fct) (half : Int) : Nat → List Nat
  | 0 => List.replicate (sizeI f.C).toNat 0
  | k + 1 => setL (f.C + 1).toNat (ixS f.C half k) (lineS f (ixS f.C half k)) (lnS f half k)
theorem ixS_lt {C half : Int} {k : Nat} (h1 : 1 ≤ C) (hk : (k : Int) ≤ C) : (ixS C half k : Int) ≤ C := by
  unfold ixS
  split
  · have := Nat.mod_lt (k + half.toNat) (show 0 < (C + 1).toNat by omega); omega
  · exact hk
theorem ixS_onto {C half : Int} {i : Nat} (h1 : 1 ≤ C) (hi : (i : Int) ≤ C) : ∃ k : Nat, (k : Int) ≤ C ∧ ixS C half k = i := by
  unfold ixS
  by_cases h : 1 ≤ half ∧ half ≤ C
  · by_cases h2 : half.toNat ≤ i
    · refine ⟨i - half.toNat, by omega, ?_⟩
      rw [if_pos h, Nat.sub_add_cancel h2, Nat.mod_eq_of_lt (by omega)]
    · refine ⟨i + (C + 1).toNat - half.toNat, by omega, ?_⟩
      rw [if_pos h, Nat.sub_add_cancel (by omega), Nat.add_mod_right, Nat.mod_eq_of_lt (by omega)]
  · exact ⟨i, hi, by rw [if_neg h]⟩
theorem lnS_length {f : Fct} (h : f.ok = true) (half : Int) (k : Nat) : (lnS f half k).length = f.xs.length := by
  have hl := ok_len h
  have h9 := size_st (N := (f.C + 1).toNat) hl.1 hl.2.1 (by omega)
  induction k with
  | zero => unfold lnS; rw [List.length_replicate]; omega
  | succ k ih => unfold lnS; rw [setL_length, ih]
theorem lineS_at {f : Fct} {i p : Nat} (h : f.ok = true) (hi : (i : Int) ≤ f.C) (h1 : st (f.C + 1).toNat i ≤ p) (h2 : p < st (f.C + 1).toNat (i + 1)) : (lineS f i)[i + (p - st (f.C + 1).toNat i)]?.getD 0 = f.xs[p]?.getD 0 := by
  have hs := st_succ (f.C + 1).toNat i
  have hb : atB f.C i (i + (p - st (f.C + 1).toNat i) : Nat) = true := atB_iff.2 (by have := ok_len h; omega)
  rw [lineS_get (hasS_iff.2 ⟨h, by omega, hi⟩) (by omega)]
  unfold getS
  rw [h, hb, Bool.and_true, if_pos rfl]
  unfold atI
  rw [if_pos hb]
  congr 2
  rw [Int.toNat_natCast]
  omega
/-- Each entry is the factor's own, or 0; those of rows that are set are the factor's. -/
theorem lnS_get {f : Fct} (h : f.ok = true) (half : Int) (k : Nat) (hk : (k : Int) ≤ f.C + 1) {p : Nat} (hp : p < f.xs.length) :
    ((lnS f half k)[p]?.getD 0 = f.xs[p]?.getD 0 ∨ (lnS f half k)[p]?.getD 0 = 0) ∧ ∀ m i : Nat, m < k → i = ixS f.C half m → st (f.C + 1).toNat i ≤ p → p < st (f.C + 1).toNat (i + 1) → (lnS f half k)[p]?.getD 0 = f.xs[p]?.getD 0 := by
  have hl := ok_len h
  induction k with
  | zero =>
    refine ⟨.inr ?_, fun m i hm => absurd hm (Nat.not_lt_zero m)⟩
    unfold lnS
    rw [List.getElem?_replicate]; split <;> rfl
  | succ k ih =>
    obtain ⟨ih1, ih2⟩ := ih (by omega)
    have hix := ixS_lt (C := f.C) (half := half) (k := k) hl.1 (by omega)
    have hlp : p < (lnS f half k).length := by rw [lnS_length h]; exact hp
    unfold lnS
    rw [setL_get hlp]
    unfold setP
    by_cases hin : st (f.C + 1).toNat (ixS f.C half k) ≤ p ∧ p < st (f.C + 1).toNat (ixS f.C half k + 1)
    · rw [if_pos hin, lineS_at h hix hin.1 hin.2]
      exact ⟨.inl rfl, fun _ _ _ _ _ _ => rfl⟩
    · rw [if_neg hin]
      refine ⟨ih1, fun m i hm hi a b => ?_⟩
      by_cases hmk : m < k
      · exact ih2 m i hmk hi a b
      · obtain rfl : m = k := by omega
        subst hi
        exact absurd ⟨a, b⟩ hin
theorem lnS_check {f : Fct} (h : f.ok = true) (half : Int) (k : Nat) (hk : (k : Int) ≤ f.C + 1) : checkS f.C (lnS f half k) 0 0 = true := by
  have hl := ok_len h
  have h9 := size_st (N := (f.C + 1).toNat) hl.1 hl.2.1 (by omega)
  have hlen := lnS_length h half k
  have hr := (rowsOk_iff hl.2.2.1).1 hl.2.2.2.2.2.2.2.2
  unfold checkS headOk
  rw [Bool.and_eq_true, decide_eq_true_eq, hlen]
  refine ⟨⟨hl.1, hl.2.1, by omega, by omega, by omega, by omega, by omega⟩, (rowsOk_iff (by rw [hlen]; exact hl.2.2.1)).2 ⟨fun j hj => ?_, fun i hi => ?_⟩⟩
  · rw [hlen] at hj
    rcases (lnS_get h half k hk hj).1 with e | e
    · rw [e]; exact hr.1 j hj
    · rw [e]; exact zero_small
  · have hp : st (f.C + 1).toNat i < f.xs.length := by have := st_in (N := (f.C + 1).toNat) (i := i) (d := 0) hi (by omega); omega
    rcases (lnS_get h half k hk hp).1 with e | e
    · rw [e]; exact hr.2 i hi
    · rw [e]; exact zero_sg
/-- A factor is its lines. -/
theorem lnS_all {f : Fct} (h : f.ok = true) (half : Int) : lnS f half (f.C + 1).toNat = f.xs := by
  have hl := ok_len h
  refine list_ext (lnS_length h half _) fun p hp => ?_
  rw [lnS_length h] at hp
  have hp2 := hp
  rw [hl.2.2.1] at hp2
  obtain ⟨i, hi, a, b⟩ := st_find _ hp2
  obtain ⟨k, hk, e⟩ := ixS_onto (C := f.C) (half := half) (i := i) hl.1 (by omega)
  exact (lnS_get h half _ (by omega) hp).2 k i (by omega) e.symm a b
/-- The next line is set. -/
theorem lnS_step {f : Fct} (h : f.ok = true) (half : Int) {k : Nat} (hk : (k : Int) ≤ f.C) :
    setB ⟨f.C, lnS f half k, 0, 0⟩ (ixS f.C half k) (lineS f (ixS f.C half k)) = true := by
  have hl := ok_len h
  have hix := ixS_lt (C := f.C) (half := half) (k := k) hl.1 hk
  unfold setB
  rw [Bool.and_eq_true, Bool.and_eq_true, decide_eq_true_eq]
  refine ⟨⟨hasS_iff.2 ⟨lnS_check h half k (by omega), by omega, hix⟩, ?_⟩, ?_⟩
  · rw [lineS_length (hasS_iff.2 ⟨h, by omega, hix⟩)]; show _ = f.C + 1; omega
  · have := lnS_check h half (k + 1) (by omega)
    unfold lnS at this
    rw [Int.toNat_natCast]
    exact this
theorem setF_step {f : Fct} (h : f.ok = true) (half : Int) {k : Nat} (hk : (k : Int) ≤ f.C) :
    setF ⟨f.C, lnS f half k, 0, 0⟩ (ixS f.C half k) (lineS f (ixS f.C half k)) = ⟨f.C, lnS f half (k + 1), 0, 0⟩ := by
  unfold setF
  rw [if_pos (lnS_step h half hk), Int.toNat_natCast]
  rfl

/-- The place of an entry, as the program counts it. -/
theorem before_st {N i : Nat} (hi : i ≤ N) (hN : N ≤ 7) : (i : Int) * N - ((i : Int) * ((i : Int) - 1)).tdiv 2 = st N i := by
  have : ∀ N i : Nat, N ≤ 7 → i ≤ N → (i : Int) * N - ((i : Int) * ((i : Int) - 1)).tdiv 2 = st N i := by
    intro N i hN hi
    have h1 : N = 0 ∨ N = 1 ∨ N = 2 ∨ N = 3 ∨ N = 4 ∨ N = 5 ∨ N = 6 ∨ N = 7 := by omega
    have h2 : i = 0 ∨ i = 1 ∨ i = 2 ∨ i = 3 ∨ i = 4 ∨ i = 5 ∨ i = 6 ∨ i = 7 := by omega
    rcases h1 with rfl | rfl | rfl | rfl | rfl | rfl | rfl | rfl <;> rcases h2 with rfl | rfl | rfl | rfl | rfl | rfl | rfl | rfl <;> first | decide | omega
  exact this N i hN hi

end Lev
