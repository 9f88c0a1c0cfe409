/- Plain texts, laid as one. -/
import Derived.Test.YtigacobphgeeaaaC9
import Derived.Test.YtigacobphgeeaaaK9
import Derived.Deep.Upon
/- Plain: whole numbers as digits of 32 bits. -/
set_option linter.unusedVariables false
namespace Lev
def vN : List Nat → Nat
  | [] => 0
  | d :: ds => d + 4294967296 * vN ds
def dg (ds : List Nat) : Prop := ∀ d ∈ ds, d < 4294967296
/-- The digits of a number, the last of them not 0. -/
def nd (n : Nat) : List Nat := if h : n = 0 then [] else n % 4294967296 :: nd (n / 4294967296)
termination_by n
decreasing_by omega
theorem nd_zero : nd 0 = [] := by rw [nd]; rfl
theorem nd_pos {n : Nat} (h : n ≠ 0) : nd n = n % 4294967296 :: nd (n / 4294967296) := by rw [nd, dif_neg h]
theorem vN_nd (n : Nat) : vN (nd n) = n := by
  induction n using Nat.strongRecOn with
  | ind n ih =>
    by_cases h : n = 0
    · subst h; rw [nd_zero]; rfl
    · rw [nd_pos h]
      show n % 4294967296 + 4294967296 * vN (nd (n / 4294967296)) = n
      rw [ih _ (by omega)]; omega
theorem dg_nd (n : Nat) : dg (nd n) := by
  induction n using Nat.strongRecOn with
  | ind n ih =>
    by_cases h : n = 0
    · subst h; rw [nd_zero]; intro d hd; cases hd
    · rw [nd_pos h]
      intro d hd
      rcases List.mem_cons.1 hd with rfl | hd
      · omega
      · exact ih (n / 4294967296) (by omega) d hd
/-- The digits of a list of digits whose last is not 0 are these. -/
theorem nd_vN : ∀ (ds : List Nat), dg ds → (ds = [] ∨ ds[ds.length - 1]?.getD 0 ≠ 0) → nd (vN ds) = ds
  | [], _, _ => nd_zero
  | d :: ds, h, hl => by
    have hd : d < 4294967296 := h d (List.mem_cons_self)
    have h2 : dg ds := fun x hx => h x (List.mem_cons_of_mem _ hx)
    have hl2 : ds = [] ∨ ds[ds.length - 1]?.getD 0 ≠ 0 := by
      cases ds with
      | nil => exact .inl rfl
      | cons x xs =>
        right
        rcases hl with h3 | h3
        · cases h3
        · simpa using h3
    have ih := nd_vN ds h2 hl2
    have hne : vN (d :: ds) ≠ 0 := by
      intro h0
      have h0 : d + 4294967296 * vN ds = 0 := h0
      have hd0 : d = 0 := by omega
      have hv0 : vN ds = 0 := by omega
      rw [hv0, nd_zero] at ih
      subst ih
      rcases hl with h3 | h3
      · cases h3
      · subst hd0; exact h3 rfl
    rw [nd_pos hne]
    have e1 : vN (d :: ds) % 4294967296 = d := by show (d + 4294967296 * vN ds) % 4294967296 = d; omega
    have e2 : vN (d :: ds) / 4294967296 = vN ds := by show (d + 4294967296 * vN ds) / 4294967296 = _; omega
    rw [e1, e2, ih]
theorem nd_last {n : Nat} (h : n ≠ 0) : (nd n)[(nd n).length - 1]?.getD 0 ≠ 0 := by
  induction n using Nat.strongRecOn with
  | ind n ih =>
    rw [nd_pos h]
    by_cases h2 : n / 4294967296 = 0
    · rw [h2, nd_zero]; show n % 4294967296 ≠ 0; omega
    · have h3 := ih _ (by omega) h2
      rw [nd_pos h2] at h3 ⊢
      simpa using h3
theorem nd_nil {n : Nat} (h : nd n = []) : n = 0 := by
  have := vN_nd n; rw [h] at this; exact this.symm
theorem nd_len_pos {n : Nat} (h : n ≠ 0) : 0 < (nd n).length := by rw [nd_pos h]; exact Nat.succ_pos _
theorem nd_len0 {n : Nat} : (nd n).length = 0 ↔ n = 0 :=
  ⟨fun h => nd_nil (List.eq_nil_of_length_eq_zero h), fun h => by rw [h, nd_zero]; rfl⟩
theorem vN_append : ∀ (a b : List Nat), vN (a ++ b) = vN a + 4294967296 ^ a.length * vN b
  | [], b => by simp [vN]
  | d :: a, b => by
    show d + 4294967296 * vN (a ++ b) = d + 4294967296 * vN a + 4294967296 ^ (a.length + 1) * vN b
    rw [vN_append a b, Nat.pow_succ, Nat.mul_add]
    rw [show 4294967296 * (4294967296 ^ a.length * vN b) = 4294967296 ^ a.length * 4294967296 * vN b from by rw [← Nat.mul_assoc, Nat.mul_comm 4294967296]]
    omega
theorem vN_snoc (a : List Nat) (d : Nat) : vN (a ++ [d]) = vN a + 4294967296 ^ a.length * d := by
  rw [vN_append]; simp [vN]
theorem vN_lt : ∀ {ds : List Nat}, dg ds → vN ds < 4294967296 ^ ds.length
  | [], _ => by simp [vN]
  | d :: ds, h => by
    have hd : d < 4294967296 := h d (List.mem_cons_self)
    have ih := vN_lt (ds := ds) (fun x hx => h x (List.mem_cons_of_mem _ hx))
    show d + 4294967296 * vN ds < 4294967296 ^ (ds.length + 1)
    rw [Nat.pow_succ]
    omega
theorem dg_take {ds : List Nat} (h : dg ds) (k : Nat) : dg (ds.take k) := fun x hx => h x (List.mem_of_mem_take hx)
theorem dg_drop {ds : List Nat} (h : dg ds) (k : Nat) : dg (ds.drop k) := fun x hx => h x (List.mem_of_mem_drop hx)
theorem dg_get {ds : List Nat} (h : dg ds) (j : Nat) : ds[j]?.getD 0 < 4294967296 := by
  by_cases hj : j < ds.length
  · rw [List.getElem?_eq_getElem hj]; exact h _ (List.getElem_mem hj)
  · rw [List.getElem?_eq_none (by omega)]; decide
theorem dg_snoc {ds : List Nat} (h : dg ds) {d : Nat} (hd : d < 4294967296) : dg (ds ++ [d]) := by
  intro x hx
  rcases List.mem_append.1 hx with hx | hx
  · exact h x hx
  · rw [List.mem_singleton.1 hx]; exact hd
theorem dg_nil : dg [] := fun x hx => by cases hx
theorem take_succ_getD (ds : List Nat) (i : Nat) (h : i < ds.length) : ds.take (i + 1) = ds.take i ++ [ds[i]?.getD 0] := by
  rw [List.take_add_one, List.getElem?_eq_getElem h]; rfl
theorem vN_take_succ (ds : List Nat) (i : Nat) : vN (ds.take (i + 1)) = vN (ds.take i) + 4294967296 ^ i * (ds[i]?.getD 0) := by
  by_cases h : i < ds.length
  · rw [take_succ_getD ds i h, vN_snoc, List.length_take, Nat.min_eq_left (by omega)]
  · rw [List.take_of_length_le (by omega), List.take_of_length_le (by omega), List.getElem?_eq_none (by omega)]; simp
theorem vN_take_all (ds : List Nat) {i : Nat} (h : ds.length ≤ i) : vN (ds.take i) = vN ds := by rw [List.take_of_length_le h]
theorem vN_take_drop (ds : List Nat) (k : Nat) (h : k ≤ ds.length) : vN ds = vN (ds.take k) + 4294967296 ^ k * vN (ds.drop k) := by
  have h1 := vN_append (ds.take k) (ds.drop k)
  rw [List.take_append_drop, List.length_take, Nat.min_eq_left h] at h1
  exact h1
/-- What is left behind the noughts at the end. -/
theorem trim_take {ds : List Nat} (hd : dg ds) {k : Nat} (hk : k ≤ ds.length) (hz : ∀ j, k ≤ j → ds[j]?.getD 0 = 0) (he : k = 0 ∨ ds[k - 1]?.getD 0 ≠ 0) : ds.take k = nd (vN ds) := by
  have hz2 : ∀ m, vN (ds.take (k + m)) = vN (ds.take k) := by
    intro m
    induction m with
    | zero => rfl
    | succ m ih => rw [← Nat.add_assoc, vN_take_succ, ih, hz _ (by omega), Nat.mul_zero, Nat.add_zero]
  have h1 : vN ds = vN (ds.take k) := by
    have := hz2 (ds.length - k)
    rwa [show k + (ds.length - k) = ds.length from by omega, vN_take_all _ (Nat.le_refl _)] at this
  rw [h1]
  refine (nd_vN _ (dg_take hd k) ?_).symm
  rcases he with rfl | he
  · exact .inl (List.take_zero)
  · by_cases h0 : k = 0
    · subst h0; exact .inl (List.take_zero)
    · right
      rw [List.length_take, Nat.min_eq_left hk, List.getElem?_take_of_lt (by omega)]
      exact he
theorem nd_lt (n : Nat) : n < 4294967296 ^ (nd n).length := by
  have := vN_lt (dg_nd n); rwa [vN_nd] at this
theorem nd_ge {n : Nat} (h : n ≠ 0) : 4294967296 ^ ((nd n).length - 1) ≤ n := by
  induction n using Nat.strongRecOn with
  | ind n ih =>
    rw [nd_pos h]
    show 4294967296 ^ ((nd (n / 4294967296)).length + 1 - 1) ≤ n
    rw [Nat.add_sub_cancel]
    by_cases h2 : n / 4294967296 = 0
    · rw [h2, nd_zero]; show 4294967296 ^ 0 ≤ n; rw [Nat.pow_zero]; omega
    · have h3 := ih _ (by omega) h2
      have h4 := nd_len_pos h2
      rw [show (nd (n / 4294967296)).length = (nd (n / 4294967296)).length - 1 + 1 from by omega, Nat.pow_succ]
      omega
theorem nd_len_lt {a b : Nat} (h : (nd a).length < (nd b).length) : a < b := by
  have hb : b ≠ 0 := fun h0 => by rw [h0, nd_zero] at h; exact absurd h (Nat.not_lt_zero _)
  have h1 := nd_lt a
  have h2 := nd_ge hb
  have h3 := Nat.pow_le_pow_right (n := 4294967296) (by decide) (show (nd a).length ≤ (nd b).length - 1 by omega)
  omega
theorem nd_len_le {a b : Nat} (h : a ≤ b) : (nd a).length ≤ (nd b).length := by
  rcases Nat.lt_or_ge (nd b).length (nd a).length with h1 | h1
  · have := nd_len_lt h1; omega
  · exact h1
/-- The upper digits decide. -/
theorem cmp_at {a b : List Nat} (ha : dg a) (hb : dg b) (hl : a.length = b.length) {i : Nat} (hi : i < a.length) (he : a.drop (i + 1) = b.drop (i + 1)) (h : a[i]?.getD 0 < b[i]?.getD 0) : vN a < vN b := by
  rw [vN_take_drop a (i + 1) (by omega), vN_take_drop b (i + 1) (by omega), he, vN_take_succ, vN_take_succ]
  have h1 : vN (a.take i) < 4294967296 ^ i := by
    have := vN_lt (dg_take ha i); rwa [List.length_take, Nat.min_eq_left (by omega)] at this
  have h2 : 4294967296 ^ i * (a[i]?.getD 0) + 4294967296 ^ i ≤ 4294967296 ^ i * (b[i]?.getD 0) := by
    rw [← Nat.mul_succ]; exact Nat.mul_le_mul (Nat.le_refl _) h
  omega
theorem drop_step {a b : List Nat} {i : Nat} (hi : i < a.length) (hl : a.length = b.length) (he : a.drop (i + 1) = b.drop (i + 1)) (h : a[i]?.getD 0 = b[i]?.getD 0) : a.drop i = b.drop i := by
  rw [List.drop_eq_getElem_cons hi, List.drop_eq_getElem_cons (by omega : i < b.length), he]
  rw [List.getElem?_eq_getElem hi, List.getElem?_eq_getElem (by omega : i < b.length)] at h
  have h : a[i] = b[i] := h
  rw [h]
theorem vN_set {O : List Nat} {p : Nat} (hp : p < O.length) (d : Nat) : vN (O.set p d) + 4294967296 ^ p * (O[p]?.getD 0) = vN O + 4294967296 ^ p * d := by
  have h1 := vN_take_drop O (p + 1) (by omega)
  have h2 := vN_take_drop (O.set p d) (p + 1) (by rw [List.length_set]; omega)
  rw [vN_take_succ] at h1 h2
  rw [List.getElem?_set_self hp] at h2
  rw [List.take_set_of_le (Nat.le_refl p), List.drop_set_of_lt (by omega)] at h2
  have h3 : (some d).getD 0 = d := rfl
  rw [h3] at h2
  omega
theorem dg_set {O : List Nat} (h : dg O) (p : Nat) {d : Nat} (hd : d < 4294967296) : dg (O.set p d) := fun x hx => by
  rcases List.mem_or_eq_of_mem_set hx with h1 | h1
  · exact h x h1
  · rw [h1]; exact hd
theorem dg_zeros (n : Nat) : dg (List.replicate n 0) := fun x hx => by rw [List.mem_replicate] at hx; rw [hx.2]; decide
theorem vN_zeros : ∀ n, vN (List.replicate n 0) = 0
  | 0 => rfl
  | n + 1 => by show 0 + 4294967296 * vN (List.replicate n 0) = 0; rw [vN_zeros n]
theorem pow32 (q : Nat) : (4294967296 : Nat) ^ q = 2 ^ (32 * q) := by rw [Nat.pow_mul]
theorem two_pow_split (k : Nat) : (2 : Nat) ^ k = 4294967296 ^ (k / 32) * 2 ^ (k % 32) := by
  rw [pow32, ← Nat.pow_add]; congr 1; omega
theorem vN_drop (ds : List Nat) (q : Nat) (h : dg ds) : vN (ds.drop q) = vN ds / 4294967296 ^ q := by
  by_cases hq : q ≤ ds.length
  · rw [vN_take_drop ds q hq]
    have h1 : vN (ds.take q) < 4294967296 ^ q := by
      have := vN_lt (dg_take h q); rwa [List.length_take, Nat.min_eq_left hq] at this
    rw [Nat.add_mul_div_left _ _ (by exact Nat.pow_pos (by decide)), Nat.div_eq_of_lt h1, Nat.zero_add]
  · rw [List.drop_of_length_le (by omega)]
    have h1 := vN_lt h
    have h2 := Nat.pow_le_pow_right (n := 4294967296) (by decide) (show ds.length ≤ q by omega)
    rw [Nat.div_eq_of_lt (by omega)]; rfl
/-- A digit of what is shifted down. -/
theorem shr_digit (n0 n1 rest r : Nat) (hr : r < 32) : ((n0 + 4294967296 * (n1 + 4294967296 * rest)) / 2 ^ r) % 4294967296 = ((n1 * 4294967296 + n0) / 2 ^ r) % 4294967296 := by
  have e : n0 + 4294967296 * (n1 + 4294967296 * rest) = (n1 * 4294967296 + n0) + 2 ^ r * (2 ^ (32 - r) * 4294967296 * rest) := by
    have h1 : 2 ^ r * (2 ^ (32 - r) * 4294967296 * rest) = (2 ^ r * 2 ^ (32 - r)) * (4294967296 * rest) := by
      simp only [Nat.mul_assoc]
    rw [h1, ← Nat.pow_add, show r + (32 - r) = 32 from by omega]
    omega
  rw [e, Nat.add_mul_div_left _ _ (Nat.pow_pos (by decide)), Nat.mul_assoc, Nat.mul_comm (2 ^ (32 - r)), Nat.mul_assoc, Nat.add_mul_mod_self_left]
theorem vN_head (ds : List Nat) (i : Nat) : vN (ds.drop i) = ds[i]?.getD 0 + 4294967296 * vN (ds.drop (i + 1)) := by
  by_cases h : i < ds.length
  · rw [List.drop_eq_getElem_cons h, List.getElem?_eq_getElem h]; rfl
  · rw [List.drop_of_length_le (by omega), List.drop_of_length_le (by omega), List.getElem?_eq_none (by omega)]; rfl
end Lev

/- Memory: slices of any values of one cell; an append of two types. -/
set_option linter.unusedVariables false
namespace Go.Proofs.Ytigacobphgeeaaa
open Go.RowKit Go.Shelf Lev

/-- The slice of address A reads the values vs. -/
structure SlV (W : World) (A : Option Addr) (vs : List Value) (c : Nat) : Prop where
  reads : 0 < vs.length → ∃ b off, A = some ⟨b, off, none⟩ ∧ b < W.heap.size ∧ ∀ j, j < vs.length → W.cell? ⟨b, off + j, none⟩ = vs[j]?
  cap : vs.length ≤ c
  room : c ≤ 9223372036854775807
theorem SlV.below {w w' : World} {A : Option Addr} {vs : List Value} {c : Nat} (h : SlV w A vs c) (hb : Below w.heap.size w w') : SlV w' A vs c :=
  ⟨fun hl => by
    obtain ⟨b, off, e, hB, hc⟩ := h.reads hl
    exact ⟨b, off, e, Nat.lt_of_lt_of_le hB hb.size, fun j hj => (hb.cell (p := ⟨b, off + j, none⟩) hB).trans (hc j hj)⟩, h.cap, h.room⟩
theorem SlV.nil (w : World) (A : Option Addr) {c : Nat} (h : c ≤ 9223372036854775807) : SlV w A [] c := ⟨fun h => absurd h (by decide), Nat.zero_le _, h⟩
theorem SlV.take {w : World} {A : Option Addr} {vs : List Value} {c : Nat} (h : SlV w A vs c) {k : Nat} (hk : k ≤ vs.length) : SlV w A (vs.take k) c := by
  have hl : (vs.take k).length = k := by rw [List.length_take]; omega
  refine ⟨fun hp => ?_, by rw [hl]; exact Nat.le_trans hk h.cap, h.room⟩
  rw [hl] at hp
  obtain ⟨b, off, e, hb, hc⟩ := h.reads (by omega)
  refine ⟨b, off, e, hb, fun j hj => ?_⟩
  rw [hl] at hj
  rw [List.getElem?_take_of_lt hj]
  exact hc j (by omega)
theorem SlV.drewN {w : World} {A : Option Addr} {vs : List Value} {c : Nat} (h : SlV w A vs c) (n : Nat) : SlV (w.drewN n) A vs c := h.below ⟨rfl, rfl, rfl, Nat.le_refl _, fun _ _ => rfl⟩
theorem SlV.src {w : World} {A : Option Addr} {vs : List Value} {c : Nat} (h : SlV w A vs c) (h1 : ∀ u ∈ vs, u.oneCell' = true) {P : Program} {tx e' : TypeId} (hk : P.underlying tx = some (.slice e')) : Src P 1 tx (.slice A vs.length c) vs.length vs w := by
  by_cases hl : 0 < vs.length
  · obtain ⟨b, off, rfl, _, hc⟩ := h.reads hl
    refine Src.ofSlice w hk _ _ _ _ (by rw [Nat.mul_one]) (fun j u hu => ?_) h1
    rw [addr_add]
    exact (hc j (List.getElem?_eq_some_iff.1 hu).1).trans hu
  · obtain rfl : vs = [] := List.eq_nil_of_length_eq_zero (by omega)
    cases A with
    | none => exact Src.ofNil w hk c
    | some a => exact Src.ofSlice w hk a 0 c [] rfl (fun j u hu => by cases hu) h1
theorem SlV.made {w : World} {g cap : Nat} {e : TypeId} {cur : Array Value} {vs : List Value} (hg : w.heap[g]? = some (.cells cur e (0, 0))) (hn : vs.length ≤ cap) (hc : cap ≤ 9223372036854775807) (ht : cur.toList.take vs.length = vs) : SlV w (some ⟨g, 0, none⟩) vs cap := by
  have hb : Bk w g e cur := hg
  refine ⟨fun _ => ⟨g, 0, rfl, hb.lt, fun j hj => ?_⟩, hn, hc⟩
  rw [Nat.zero_add, hb.cell, ← ht]
  rw [List.getElem?_take_of_lt hj, Array.getElem?_toList]
theorem SlV.own {w : World} {base : Nat} {e : TypeId} {v : Value} {vs : List Value} (h : w.ownsRow base e 1 v vs.length vs) : ∃ A c, v = .slice A vs.length c ∧ SlV w A vs c := by
  rcases h.2 with ⟨rfl, h0⟩ | ⟨g, cap, cur, rfl, hb, hg, hn, hc, _, ht⟩
  · obtain rfl := List.eq_nil_of_length_eq_zero h0
    exact ⟨none, 0, rfl, SlV.nil _ _ (by decide)⟩
  · exact ⟨_, _, rfl, SlV.made hg hn hc (by rw [Nat.mul_one] at ht; exact ht)⟩

/-- What a walk knows of memory: what lay there is as it was; blocks of its own; slices. -/
structure KeepV (w W : World) (L : List (Nat × TypeId × Array Value)) (M : List (Option Addr × List Value × Nat)) : Prop where
  below : Below w.heap.size w W
  bk : ∀ x ∈ L, Bk W x.1 x.2.1 x.2.2
  sl : ∀ y ∈ M, SlV W y.1 y.2.1 y.2.2
theorem KeepV.start (w : World) : KeepV w w [] [] := ⟨Below.refl _ _, fun _ hx => absurd hx List.not_mem_nil, fun _ hx => absurd hx List.not_mem_nil⟩
theorem KeepV.call {w W W' : World} {L M} (h : KeepV w W L M) (hb : Below W.heap.size W W') : KeepV w W' L M :=
  ⟨h.below.trans (hb.mono h.below.size), fun x hx => (h.bk x hx).below hb (h.bk x hx).lt, fun y hy => (h.sl y hy).below hb⟩
theorem KeepV.alloc {w W : World} {L M} (h : KeepV w W L M) (cs : Array Value) (t : TypeId) : KeepV w (W.alloc (.cells cs t)) ((W.heap.size, t, cs) :: L) M := by
  have hb := (Below.refl W.heap.size W).alloc (Nat.le_refl _) (.cells cs t)
  have h2 := h.call hb
  refine ⟨h2.below, fun x hx => ?_, h2.sl⟩
  rcases List.mem_cons.1 hx with rfl | hx
  · exact Bk.new _ _ _
  · exact h2.bk x hx
theorem KeepV.more {w W : World} {L M} (h : KeepV w W L M) {A : Option Addr} {vs : List Value} {c : Nat} (hs : SlV W A vs c) : KeepV w W L ((A, vs, c) :: M) :=
  ⟨h.below, h.bk, fun y hy => by
    rcases List.mem_cons.1 hy with rfl | hy
    · exact hs
    · exact h.sl y hy⟩
theorem KeepV.known {w W : World} {L M} (h : KeepV w W L M) {g : Nat} {t : TypeId} {cs : Array Value} (hs : Bk W g t cs) : KeepV w W ((g, t, cs) :: L) M :=
  ⟨h.below, fun y hy => by
    rcases List.mem_cons.1 hy with rfl | hy
    · exact hs
    · exact h.bk y hy, h.sl⟩
theorem KeepV.drewN {w W : World} {L M} (h : KeepV w W L M) (n : Nat) : KeepV w (W.drewN n) L M := h.call ⟨rfl, rfl, rfl, Nat.le_refl _, fun _ _ => rfl⟩
theorem KeepV.box {w W : World} {L M} (h : KeepV w W L M) {g : Nat} {t : TypeId} {cs : Array Value} (hx : (g, t, cs) ∈ L) : Bk W g t cs := h.bk _ hx
theorem KeepV.arg {w W : World} {L M} (h : KeepV w W L M) {A : Option Addr} {vs : List Value} {c : Nat} (hx : (A, vs, c) ∈ M) : SlV W A vs c := h.sl _ hx

theorem run_cut_high_u (L : Option Addr) (n c k : Nat) (hk : k ≤ c) (_hc : c ≤ 9223372036854775807) (w : World) : (Instr.slice 35 (.slice L n c) none (some (.int .i64 (k : Int))) none).run Try.prog w = .ok (.slice L k c) w := by
  have h := run_slice_h (P := Try.prog) (w := w) 35 L n c (by kernel_rfl) .i64 (k : Int) (by omega) (by omega)
  rw [h]
  have hs : (sizeOf (Program.elem Try.prog 35)).run Try.prog w = .ok 1 w := by kernel_rfl
  rw [hs]
  simp only [Result.andThen, sliced, Int.toNat_natCast, Nat.zero_mul, addr_add0, ite_self, Nat.sub_zero]

/-- An append to nothing, of another type of slice. -/
theorem wpList_append_two {P : Program} {w : World} {ops : Array Oper} {rest : List Oper} {o : Oper} {a : Act} {Q : Exit → Act → World → Prop} (hgd : o.guard = none) (s x : Operand) (t tx : TypeId)
    (ho : o.op = .call { callee := .builtin .append, args := #[s, x], argTypes := #[t, tx] })
    (e e' : TypeId) (i : TypeInfo) (z : Value) (bytes : Nat) (ht : P.underlying t = some (.slice e)) (htx : P.underlying tx = some (.slice e')) (hi : P.info? e = some i) (hz : i.zero = some z) (hsize : i.size = 1) (hby : i.bytes = bytes)
    (B0 : Option Addr) (hs : a.eval s = .slice B0 0 0) (A : Option Addr) (c : Nat) (vs : List Value) (n : Nat) (hn : vs.length = n) (hx : a.eval x = .slice A n c) (hsl : SlV w A vs c) (h1 : ∀ u ∈ vs, u.oneCell' = true)
    (h63 : vs.length ≤ maxLen) (hbytes : vs.length * bytes ≤ 140737488355328)
    (h : ∀ v' w', (∃ A2 c2, v' = .slice A2 n c2 ∧ SlV w' A2 vs c2) → Below w.heap.size w w' → wpList P ops Q rest (a.put o.dst v') w') :
    wpList P ops Q (o :: rest) a w := by
  subst hn
  refine wpList_plain hgd fun K hK => ?_
  have hsrc : Src P i.size tx (.slice A vs.length c) vs.length vs w := by rw [hsize]; exact hsl.src h1 htx
  by_cases hl : 0 < vs.length
  · have hr := run_append_grow_src (P := P) w t tx o.type e i z ht hi hz B0 0 0 [] (by cases B0 with
      | none => exact run_firstCells_none w.drew i.size 0 0 0
      | some a => exact run_firstCells_some w.drew i.size 0 a 0 0 [] (by rw [Nat.zero_mul]; rfl) (fun j u hu => by cases hu)) (.slice A vs.length c) vs.length vs hsrc (by omega) (by unfold maxLen at h63; omega) (by
      rw [hby, Nat.zero_add]
      have hn : Builtin.nextslicecap vs.length 0 = vs.length := nextslicecap_zero hl
      rw [hn]; omega)
    rw [Nat.zero_add] at hr
    unfold Oper.wp
    simp [execOp, ho, resolve, invoke, builtin, hs, hx, hr, Result.andThen]
    refine hK _ _ (h _ _ ⟨_, _, rfl, SlV.made (e := e) (heap_alloc_new _ _) (grownCap_ge _ _ _ _) (grownCap_le_maxLen _ _ _ _ h63) ?_⟩ ?_)
    · simp
    · exact ((Below.refl _ _).drew).alloc (by simp) _
  · obtain rfl : vs = [] := List.eq_nil_of_length_eq_zero (by omega)
    have hr := run_append_nothing (P := P) w t tx o.type e i ht hi B0 0 0 (Nat.le_refl _) (.slice A 0 c) hsrc
    unfold Oper.wp
    simp [execOp, ho, resolve, invoke, builtin, hs, hx, hr, Result.andThen]
    exact hK _ _ (h _ _ ⟨_, _, rfl, SlV.nil _ _ (by decide)⟩ (Below.refl _ _))
end Go.Proofs.Ytigacobphgeeaaa

/- Contracts of the document's whole numbers: Trim, at, Check, From. -/
set_option linter.unusedVariables false
namespace Go.Proofs.Ytigacobphgeeaaa
open Go.RowKit Go.Shelf Lev

attribute [local go_sem] run_cut_high_u

def nV (ds : List Nat) : List Value := ds.map fun (d : Nat) => Value.int .u32 (d : Int)
theorem nV_length (ds : List Nat) : (nV ds).length = ds.length := List.length_map _
theorem nV_take (ds : List Nat) (k : Nat) : (nV ds).take k = nV (ds.take k) := (List.map_take ..).symm
theorem nV_get {ds : List Nat} {j : Nat} (h : j < ds.length) : (nV ds)[j]? = some (.int .u32 ((ds[j]?.getD 0 : Nat) : Int)) := by
  unfold nV; rw [List.getElem?_map, List.getElem?_eq_getElem h]; rfl
theorem nV_one (ds : List Nat) : ∀ u ∈ nV ds, u.oneCell' = true := fun u hu => by
  unfold nV at hu; rw [List.mem_map] at hu; obtain ⟨y, _, rfl⟩ := hu; rfl
theorem nV_snoc (ds : List Nat) (d : Nat) : nV (ds ++ [d]) = nV ds ++ [.int .u32 (d : Int)] := by unfold nV; rw [List.map_append]; rfl

/-- A slice of digits. -/
structure NatA (W : World) (A : Option Addr) (ds : List Nat) (c : Nat) : Prop where
  sl : SlV W A (nV ds) c
  dig : dg ds
  len : ds.length ≤ 100000
theorem NatA.below {w w' : World} {A : Option Addr} {ds : List Nat} {c : Nat} (h : NatA w A ds c) (hb : Below w.heap.size w w') : NatA w' A ds c := ⟨h.sl.below hb, h.dig, h.len⟩
theorem NatA.cells {w : World} {A : Option Addr} {ds : List Nat} {c : Nat} (h : NatA w A ds c) (hl : 0 < ds.length) : ∃ b off, A = some ⟨b, off, none⟩ ∧ b < w.heap.size ∧ ∀ j, j < ds.length → w.cell? ⟨b, off + j, none⟩ = some (.int .u32 ((ds[j]?.getD 0 : Nat) : Int)) := by
  obtain ⟨b, off, e, hb, hc⟩ := h.sl.reads (by rw [nV_length]; exact hl)
  exact ⟨b, off, e, hb, fun j hj => by rw [hc j (by rw [nV_length]; exact hj), nV_get hj]⟩
theorem NatA.cap {w : World} {A : Option Addr} {ds : List Nat} {c : Nat} (h : NatA w A ds c) : ds.length ≤ c := by have := h.sl.cap; rwa [nV_length] at this
theorem NatA.nil (w : World) (A : Option Addr) {c : Nat} (h : c ≤ 9223372036854775807) : NatA w A [] c := ⟨SlV.nil _ _ h, dg_nil, by decide⟩

theorem info_u32 : (Try.prog.info? 92).map (fun i => (i.zero, i.size, i.bytes)) = some (some (.int .u32 0), 1, 4) := by kernel_rfl

/-- A result: the number N. -/
def IsN (w' : World) (v : Value) (N : Nat) : Prop := ∃ B c2, v = .slice B (nd N).length c2 ∧ NatA w' B (nd N) c2

set_option maxRecDepth 100000 in
set_option maxHeartbeats 1000000 in
theorem trim_any (ds : List Nat) (A : Option Addr) (c : Nat) (w : World) (h : NatA w A ds c) :
    Calls Try.prog 81 #[.slice A ds.length c] w fun e w' => (∃ v, e = .returned v ∧ IsN w' v (vN ds)) ∧ Below w.heap.size w w' := by
  obtain ⟨i0, hi, hz0, hz1, hz2⟩ := info_parts info_u32
  have hl := h.len
  have hcap := h.cap
  have hroom := h.sl.room
  have H := Lib.hid h
  have HI := Lib.hid hi; have HZ0 := Lib.hid hz0; have HZ1 := Lib.hid hz1; have HZ2 := Lib.hid hz2
  clear h hi hz0 hz1 hz2
  go_enter Try.func81, Try.ntmps81
  go_wp2_with fail
  go_loop [3] (fun v => ∃ k : Nat, k ≤ ds.length ∧ v = .int .i64 (k : Int) ∧ ∀ j, k ≤ j → ds[j]?.getD 0 = 0) (fun v => (intOf v).toNat)
  case atStart => exact ⟨ds.length, Nat.le_refl _, rfl, fun j hj => by rw [List.getElem?_eq_none hj]; rfl⟩
  case round =>
    obtain ⟨k, hk, rfl, hz⟩ := hrel
    have HZ := Lib.hid hz
    clear hz
    have fin : ∀ (K : Nat), K ≤ ds.length → (∀ j, K ≤ j → ds[j]?.getD 0 = 0) → (K = 0 ∨ ds[K - 1]?.getD 0 ≠ 0) → ((nV ds).take K).length = K ∧ ((nV ds).take K) = nV (nd (vN ds)) ∧ (nd (vN ds)).length = K := fun K hK hzz hne => by
      have e := trim_take H.out.dig hK hzz hne
      have hl2 : ((nV ds).take K).length = K := by rw [List.length_take, nV_length]; omega
      refine ⟨hl2, by rw [nV_take, e], ?_⟩
      rw [← e, List.length_take]; omega
    have FIN := Lib.hid fin
    clear fin
    by_cases h0 : k = 0
    · subst h0
      obtain ⟨p1, p2, p3⟩ := FIN.out 0 (Nat.zero_le _) HZ.out (.inl rfl)
      have P1 := Lib.hid p1; have P2 := Lib.hid p2; have P3 := Lib.hid p3
      clear p1 p2 p3
      go_wp2_with (at_builtin; refine wpList_append_two rfl _ _ 36 35 rfl 92 92 i0 (.int .u32 0) 4 Try.underlying36 Try.underlying35 HI.out HZ0.out HZ1.out HZ2.out _ rfl A c ((nV ds).take 0) 0 P1.out rfl ((H.out.sl.below ((Below.refl _ _).alloc (Nat.le_refl _) _)).take (Nat.zero_le _)) (fun u hu => nV_one ds u (List.mem_of_mem_take hu)) (by unfold maxLen; rw [P1.out]; omega) (by rw [P1.out]; omega) ?_; rintro v' w2 ⟨A2, c2, rfl, hs2⟩ hb2)
      go_ret
      refine ⟨⟨_, rfl, A2, c2, ?_, ?_, dg_nd _, by rw [P3.out]; omega⟩, Below.chain ((Below.refl _ _).alloc (Nat.le_refl _) _) hb2⟩
      · rw [P3.out]; rfl
      · rw [← P2.out]; exact hs2
    · obtain ⟨m, rfl⟩ : ∃ m, k = m + 1 := ⟨k - 1, by omega⟩
      obtain ⟨b, off, hA, hb, hc⟩ := H.out.cells (by omega)
      have hcell := hc m (by omega)
      have hd : ds[m]?.getD 0 < 4294967296 := dg_get H.out.dig m
      clear hc
      by_cases hz0 : ds[m]?.getD 0 = 0
      · rw [hz0] at hcell
        subst hA
        clear hd
        have HZM := Lib.hid hz0
        clear hz0
        go_wp2
        go_round
        case rel => exact ⟨m, by omega, by go_num, fun j hj => by
          by_cases e : j = m
          · rw [e]; exact HZM.out
          · exact HZ.out j (by omega)⟩
        case measure => simp [intOf]
      · obtain ⟨p1, p2, p3⟩ := FIN.out (m + 1) hk HZ.out (.inr hz0)
        have P1 := Lib.hid p1; have P2 := Lib.hid p2; have P3 := Lib.hid p3
        have hne : (((ds[m]?.getD 0 : Nat) : Int) == 0) = false := by rw [beq_eq_false_iff_ne]; omega
        subst hA
        clear p1 p2 p3 hz0
        generalize ds[m]?.getD 0 = d at *
        go_wp2_with (at_builtin; refine wpList_append_two rfl _ _ 36 35 rfl 92 92 i0 (.int .u32 0) 4 Try.underlying36 Try.underlying35 HI.out HZ0.out HZ1.out HZ2.out _ rfl (some ⟨b, off, none⟩) c ((nV ds).take (m + 1)) (m + 1) P1.out rfl ((H.out.sl.below ((Below.refl _ _).alloc (Nat.le_refl _) _)).take (by rw [nV_length]; exact hk)) (fun u hu => nV_one ds u (List.mem_of_mem_take hu)) (by unfold maxLen; rw [P1.out]; omega) (by rw [P1.out]; omega) ?_; rintro v' w2 ⟨A2, c2, rfl, hs2⟩ hb2)
        go_ret
        refine ⟨⟨_, rfl, A2, c2, ?_, ?_, dg_nd _, by rw [P3.out]; omega⟩, Below.chain ((Below.refl _ _).alloc (Nat.le_refl _) _) hb2⟩
        · rw [P3.out]; rfl
        · rw [← P2.out]; exact hs2
end Go.Proofs.Ytigacobphgeeaaa

/- Contracts of the document's whole numbers: at, Check, From, Add. -/
set_option linter.unusedVariables false
namespace Go.Proofs.Ytigacobphgeeaaa
open Go.RowKit Go.Shelf Lev

set_option maxRecDepth 100000 in
set_option maxHeartbeats 1000000 in
theorem at02_any (ds : List Nat) (A : Option Addr) (c : Nat) (i : Nat) (hi : i ≤ 200000) (w : World) (h : NatA w A ds c) :
    Calls Try.prog 84 #[.slice A ds.length c, .int .i64 (i : Int)] w fun e w' => e = .returned (.int .u64 ((ds[i]?.getD 0 : Nat) : Int)) ∧ w = w' := by
  have hd : ds[i]?.getD 0 < 4294967296 := dg_get h.dig i
  have hl := h.len
  by_cases hlt : i < ds.length
  · obtain ⟨b, off, rfl, hb, hc⟩ := h.cells (by omega)
    have hcell := hc i hlt
    clear hc h
    have HD := Lib.hid hd
    generalize ds[i]?.getD 0 = d at *
    go_enter Try.func84, Try.ntmps84
    go_wp2
    go_ret
    exact ⟨rfl, rfl⟩
  · have e : ds[i]?.getD 0 = 0 := by rw [List.getElem?_eq_none (by omega)]; rfl
    rw [e]
    clear h e hd
    go_enter Try.func84, Try.ntmps84
    go_wp2
    go_ret
    exact ⟨rfl, rfl⟩

set_option maxRecDepth 100000 in
set_option maxHeartbeats 1000000 in
theorem check02_any (N : Nat) (A : Option Addr) (c : Nat) (w : World) (h : NatA w A (nd N) c) :
    Calls Try.prog 95 #[.slice A (nd N).length c] w fun e w' => e = .returned (.bool true) ∧ w = w' := by
  have hl := h.len
  by_cases h0 : N = 0
  · subst h0
    rw [nd_zero]
    clear h hl
    go_enter Try.func95, Try.ntmps95
    go_wp2
    go_ret
    exact ⟨rfl, rfl⟩
  · have hp := nd_len_pos h0
    have hlast := nd_last h0
    obtain ⟨m, hm⟩ : ∃ m, (nd N).length = m + 1 := ⟨(nd N).length - 1, by omega⟩
    obtain ⟨b, off, rfl, hb, hc⟩ := h.cells hp
    have hcell := hc m (by omega)
    rw [hm, Nat.add_sub_cancel] at hlast
    rw [hm] at hl ⊢
    have hne : (((((nd N)[m]?.getD 0 : Nat) : Int)) != 0) = true := by rw [bne_iff_ne]; omega
    clear hc h hm hp h0 hlast
    generalize (nd N)[m]?.getD 0 = d at *
    have hne2 : (((m + 1 : Nat) : Int) == 0) = false := by rw [beq_eq_false_iff_ne]; omega
    go_enter Try.func95, Try.ntmps95
    go_wp2
    go_ret
    exact ⟨rfl, rfl⟩

set_option maxRecDepth 100000 in
set_option maxHeartbeats 1000000 in
theorem from02_any (x : Nat) (hx : x < 18446744073709551616) (w : World) :
    Calls Try.prog 51 #[.int .u64 (x : Int)] w fun e w' => (∃ v, e = .returned v ∧ IsN w' v x) ∧ Below w.heap.size w w' := by
  have hv : vN [x % 4294967296, x / 4294967296] = x := by show x % 4294967296 + 4294967296 * (x / 4294967296 + 4294967296 * 0) = x; omega
  have HV := Lib.hid hv
  have HT := Lib.hid (fun W A c h => trim_any [x % 4294967296, x / 4294967296] A c W h)
  clear hv
  go_enter Try.func51, Try.ntmps51
  have hk : #[Value.int .u32 ((x : Int) % 4294967296), Value.int .u32 ((x : Int) / 4294967296)] = (nV [x % 4294967296, x / 4294967296]).toArray := by simp [nV]
  have hk2 : SlV (w.alloc (.cells #[Value.int .u32 ((x : Int) % 4294967296), Value.int .u32 ((x : Int) / 4294967296)] 92)) (some ⟨w.heap.size, 0, none⟩) (nV [x % 4294967296, x / 4294967296]) 2 := by
    rw [hk]; exact SlV.made (heap_alloc_new _ _) (by rw [nV_length]; exact Nat.le_refl 2) (by decide) (by simp [nV])
  have HA := Lib.hid (⟨hk2, fun d hd => by
    rcases List.mem_cons.1 hd with rfl | hd
    · omega
    · rw [List.mem_singleton.1 hd]; omega, by show 2 ≤ 100000; decide⟩ : NatA _ _ [x % 4294967296, x / 4294967296] 2)
  clear hk hk2
  go_wp2_with fail
  refine (HT.out _ _ _ HA.out).mono ?_
  rintro e w1 ⟨⟨v, rfl, hv⟩, hb⟩
  rw [HV.out] at hv
  have HR := Lib.hid hv
  have HB := Lib.hid (Below.chain ((Below.refl w.heap.size w).alloc (Nat.le_refl _) _) hb)
  clear hv hb
  go_wp2
  go_ret
  exact ⟨⟨_, rfl, HR.out⟩, HB.out⟩

theorem own_nil_nV (w : World) (base : Nat) (e : TypeId) : w.ownsRow base e 1 (.slice none 0 0) 0 (nV []) := World.ownsRow_nil _ _ _ _
theorem NatA.own {w : World} {base : Nat} {e : TypeId} {v : Value} {ds : List Nat} {n : Nat} (h : w.ownsRow base e 1 v n (nV ds)) (hn : ds.length = n) (hd : dg ds) (hl : ds.length ≤ 100000) : ∃ A c, v = .slice A ds.length c ∧ NatA w A ds c := by
  subst hn
  obtain ⟨A, c, e1, hs⟩ := SlV.own (vs := nV ds) (by rw [nV_length]; exact h)
  exact ⟨A, c, by rw [e1, nV_length], hs, hd, hl⟩
/-- One digit more of a sum. -/
theorem add_step {a b O : List Nat} {i c : Nat} (hO : O.length = i) (h : vN O + 4294967296 ^ i * c = vN (a.take i) + vN (b.take i)) {s : Nat} (hs : s = a[i]?.getD 0 + b[i]?.getD 0 + c) :
    vN (O ++ [s % 4294967296]) + 4294967296 ^ (i + 1) * (s / 4294967296) = vN (a.take (i + 1)) + vN (b.take (i + 1)) := by
  rw [vN_snoc, vN_take_succ, vN_take_succ, hO, Nat.pow_succ, Nat.mul_assoc]
  have e : 4294967296 ^ i * (s % 4294967296) + 4294967296 ^ i * (4294967296 * (s / 4294967296)) = 4294967296 ^ i * (a[i]?.getD 0) + 4294967296 ^ i * (b[i]?.getD 0) + 4294967296 ^ i * c := by
    rw [← Nat.mul_add, ← Nat.mul_add, ← Nat.mul_add, ← hs, Nat.mod_add_div]
  omega

set_option maxRecDepth 100000 in
set_option maxHeartbeats 4000000 in
theorem add02_any (a b : List Nat) (A B : Option Addr) (ca cb : Nat) (w : World) (ha : NatA w A a ca) (hb : NatA w B b cb) (hla : a.length ≤ 90000) (hlb : b.length ≤ 90000) :
    Calls Try.prog 58 #[.slice A a.length ca, .slice B b.length cb] w fun e w' => (∃ v, e = .returned v ∧ IsN w' v (vN a + vN b)) ∧ Below w.heap.size w w' := by
  obtain ⟨i0, hi, hz0, hz1, hz2⟩ := info_parts info_u32
  have HI := Lib.hid hi; have HZ0 := Lib.hid hz0; have HZ1 := Lib.hid hz1; have HZ2 := Lib.hid hz2
  have HA := Lib.hid ha; have HB := Lib.hid hb
  obtain ⟨M, hM1, hM2, hM3, hM4⟩ : ∃ M, a.length ≤ M ∧ b.length ≤ M ∧ (M = a.length ∨ M = b.length) ∧ M ≤ 90000 := ⟨max a.length b.length, by omega, by omega, by omega, by omega⟩
  clear hi hz0 hz1 hz2 ha hb
  go_enter Try.func58, Try.ntmps58
  go_wp2_with fail
  go_loopw [5, 6, 7] (fun v cy i wr => ∃ (k c : Nat) (O : List Nat), i = .int .i64 (k : Int) ∧ cy = .int .u64 (c : Int) ∧ wr.ownsRow w.heap.size 92 1 v k (nV O) ∧ O.length = k ∧ dg O ∧ c ≤ 1 ∧ k ≤ M + 1 ∧ (k ≤ M ∨ c = 0) ∧ vN O + 4294967296 ^ k * c = vN (a.take k) + vN (b.take k) ∧ Below w.heap.size w wr) (fun _ _ i _ => M + 2 - (intOf i).toNat)
  case atStart => exact ⟨0, 0, [], rfl, rfl, own_nil_nV _ _ _, rfl, dg_nil, by decide, by omega, .inr rfl, by simp [vN], Below.refl _ _⟩
  case round =>
    obtain ⟨k, c, O, rfl, rfl, hown, hOl, hdO, hc1, hk1, hk2, hval, hbel⟩ := hrel
    have HO := Lib.hid hown; have HOL := Lib.hid hOl; have HDO := Lib.hid hdO; have HV := Lib.hid hval; have HBL := Lib.hid hbel
    clear hown hOl hdO hval hbel
    have hgo : ((k : Int) < (a.length : Int)) ∨ (¬ ((k : Int) < (a.length : Int)) ∧ ((k : Int) < (b.length : Int))) ∨ (¬ ((k : Int) < (a.length : Int)) ∧ ¬ ((k : Int) < (b.length : Int)) ∧ 0 < c) ∨ (¬ ((k : Int) < (a.length : Int)) ∧ ¬ ((k : Int) < (b.length : Int)) ∧ c = 0) := by omega
    by_cases hend : (¬ ((k : Int) < (a.length : Int)) ∧ ¬ ((k : Int) < (b.length : Int)) ∧ c = 0)
    · obtain ⟨e1, e2, rfl⟩ := hend
      have hsum : vN O = vN a + vN b := by
        have := HV.out
        rw [vN_take_all a (by omega), vN_take_all b (by omega)] at this; omega
      obtain ⟨A2, c2, rfl, hN⟩ := NatA.own HO.out HOL.out HDO.out (by have := HOL.out; omega)
      have HT := Lib.hid (trim_any O A2 c2 wr hN)
      rw [hsum] at HT
      clear hsum hN hgo
      go_wp2_with fail
      refine HT.out.mono ?_
      rintro e w1 ⟨⟨v, rfl, hv⟩, hb⟩
      have HR := Lib.hid hv
      have HB2 := Lib.hid (hb.mono HBL.out.size)
      clear hv hb
      go_wp2
      go_ret
      exact ⟨⟨_, rfl, HR.out⟩, HBL.out.trans HB2.out⟩
    · have HGO := Lib.hid (show ((k : Int) < (a.length : Int)) ∨ (¬ ((k : Int) < (a.length : Int)) ∧ ((k : Int) < (b.length : Int))) ∨ (¬ ((k : Int) < (a.length : Int)) ∧ ¬ ((k : Int) < (b.length : Int)) ∧ c = 1) by omega)
      have hka := dg_get HA.out.dig k
      have hkb := dg_get HB.out.dig k
      have hAT := fun W h => at02_any a A ca k (by omega) W (HA.out.below h)
      have hBT := fun W h => at02_any b B cb k (by omega) W (HB.out.below h)
      have hstep := fun s hs => add_step (a := a) (b := b) (s := s) HOL.out HV.out hs
      have hz1 : (a.length : Nat) ≤ k → a[k]?.getD 0 = 0 := fun h => by rw [List.getElem?_eq_none h]; rfl
      have hz2 : (b.length : Nat) ≤ k → b[k]?.getD 0 = 0 := fun h => by rw [List.getElem?_eq_none h]; rfl
      have HZA := Lib.hid hz1; have HZB := Lib.hid hz2
      have HST := Lib.hid hstep
      have HAT := Lib.hid hAT; have HBT := Lib.hid hBT
      clear hend hgo hAT hBT hstep hz1 hz2
      generalize a[k]?.getD 0 = x at *
      generalize b[k]?.getD 0 = y at *
      have HK2 := Lib.hid hk2
      clear hk2
      rcases HGO.out with h1 | ⟨h1, h2⟩ | ⟨h1, h2, rfl⟩
      all_goals
        go_wp2_with fail
        refine (HAT.out _ HBL.out).mono ?_
        rintro e w1 ⟨rfl, rfl⟩
        go_wp2_with fail
        refine (HBT.out _ HBL.out).mono ?_
        rintro e w1 ⟨rfl, rfl⟩
        go_wp2_with (at_builtin; refine wpList_append_own _ rfl _ _ 35 rfl w.heap.size 92 i0 (.int .u32 0) 1 4 Try.underlying35 HI.out HZ0.out HZ1.out HZ2.out rfl (by decide) _ _ _ rfl (HO.out.alloc _) ⟨wr.heap.size, 0, none⟩ 1 1 [_] rfl rfl (cell_one_new _ _ _) (by simp [Value.oneCell']) (by unfold maxLen; omega) (by omega) (by have := HBL.out.size; simp; omega) ?_; intro v' w1 hown' hgrow _)
        go_roundw
        case rel =>
          have hb3 := HBL.out.size
          have hO := HOL.out
          have hk2 := HK2.out
          first
          | exact ⟨k + 1, (x + y + c) / 4294967296, O ++ [(x + y + c) % 4294967296], by go_num, by congr 1, by rw [nV_snoc]; exact hown', by rw [List.length_append, hO]; rfl, dg_snoc HDO.out (by omega), by omega, by omega, by omega, HST.out _ rfl, (HBL.out.alloc hb3 _).grown hgrow (by simp; omega) (own_from HO.out)⟩
          | exact ⟨k + 1, (x + y + 1) / 4294967296, O ++ [(x + y + 1) % 4294967296], by go_num, by congr 1, by rw [nV_snoc]; exact hown', by rw [List.length_append, hO]; rfl, dg_snoc HDO.out (by omega), by omega, by omega, by have h1 := HZA.out (by omega); have h2 := HZB.out (by omega); omega, HST.out _ rfl, (HBL.out.alloc hb3 _).grown hgrow (by simp; omega) (own_from HO.out)⟩
        case measure => simp [intOf]; omega
end Go.Proofs.Ytigacobphgeeaaa

/- Contracts of the document's whole numbers: Cmp, Sub. -/
set_option linter.unusedVariables false
namespace Lev
def cmpN (x y : Nat) : Int := if x < y then -1 else if y < x then 1 else 0
theorem cmpN_lt {x y : Nat} (h : x < y) : cmpN x y = -1 := by unfold cmpN; rw [if_pos h]
theorem cmpN_gt {x y : Nat} (h : y < x) : cmpN x y = 1 := by unfold cmpN; rw [if_neg (by omega), if_pos h]
theorem cmpN_eq (x : Nat) : cmpN x x = 0 := by unfold cmpN; rw [if_neg (by omega), if_neg (by omega)]
theorem nd_inj {x y : Nat} (h : nd x = nd y) : x = y := by rw [← vN_nd x, ← vN_nd y, h]
end Lev
namespace Go.Proofs.Ytigacobphgeeaaa
open Go.RowKit Go.Shelf Lev

theorem IsN.below {w w' : World} {v : Value} {N : Nat} (h : IsN w v N) (hb : Below w.heap.size w w') : IsN w' v N := by
  obtain ⟨B, c, e, hn⟩ := h
  exact ⟨B, c, e, hn.below hb⟩

set_option maxRecDepth 100000 in
set_option maxHeartbeats 4000000 in
theorem cmp02_any (a b : List Nat) (A B : Option Addr) (ca cb : Nat) (w : World) (ha : NatA w A a ca) (hb : NatA w B b cb) :
    Calls Try.prog 60 #[.slice A a.length ca, .slice B b.length cb] w fun e w' => e = .returned (.int .i64 (cmpN (vN a) (vN b))) ∧ Below w.heap.size w w' := by
  have HA := Lib.hid (trim_any a A ca w ha)
  have HB := Lib.hid (fun W h => trim_any b B cb W (hb.below h))
  clear ha hb
  generalize vN a = x at *
  generalize vN b = y at *
  go_enter Try.func60, Try.ntmps60
  go_wp2_with fail
  refine HA.out.mono ?_
  rintro e w1 ⟨⟨v, rfl, A1, c1, rfl, hn1⟩, hb1⟩
  have HB1 := Lib.hid hb1; have HN1 := Lib.hid hn1
  have HBW := Lib.hid (HB.out _ hb1)
  clear hb1 hn1 HA HB
  go_wp2_with fail
  refine HBW.out.mono ?_
  rintro e w2 ⟨⟨v, rfl, A2, c2, rfl, hn2⟩, hb2⟩
  have HX := Lib.hid (HN1.out.below hb2); have HY := Lib.hid hn2
  have HB2 := Lib.hid (Below.chain HB1.out hb2)
  clear hb2 hn2 HN1 HB1 HBW
  have hx1 := HX.out.len
  have hy1 := HY.out.len
  by_cases hlt : (nd x).length < (nd y).length
  · have HC := Lib.hid (cmpN_lt (nd_len_lt hlt))
    have t0 : (((nd x).length : Int) != ((nd y).length : Int)) = true := by rw [bne_iff_ne]; omega
    have t1 : ((nd x).length : Int) < ((nd y).length : Int) := by omega
    clear hlt
    go_wp2
    go_ret
    exact ⟨by rw [HC.out]; rfl, HB2.out⟩
  · by_cases hgt : (nd y).length < (nd x).length
    · have HC := Lib.hid (cmpN_gt (nd_len_lt hgt))
      have t0 : (((nd x).length : Int) != ((nd y).length : Int)) = true := by rw [bne_iff_ne]; omega
      have t1 : ¬ ((nd x).length : Int) < ((nd y).length : Int) := by omega
      clear hlt hgt
      go_wp2
      go_ret
      exact ⟨by rw [HC.out]; rfl, HB2.out⟩
    · have hll : (nd x).length = (nd y).length := by omega
      have t0 : (((nd x).length : Int) != ((nd y).length : Int)) = false := by rw [bne_eq_false_iff_eq]; omega
      have HLL := Lib.hid hll
      clear hll hlt hgt
      go_wp2_with fail
      go_loopw [7] (fun i wr => ∃ k n : Nat, k ≤ (nd x).length ∧ i = .int .i64 ((k : Int) - 1) ∧ wr = w2.drewN n ∧ (nd x).drop k = (nd y).drop k) (fun i _ => (intOf i + 1).toNat)
      case atStart => exact ⟨(nd x).length, 0, Nat.le_refl _, by go_num, rfl, by rw [List.drop_length, HLL.out, List.drop_length]⟩
      case round =>
        obtain ⟨k, n, hk, rfl, rfl, hdr⟩ := hrel
        have HDR := Lib.hid hdr
        clear hdr
        by_cases h0 : k = 0
        · subst h0
          have he : x = y := by
            have := HDR.out
            rw [List.drop_zero, List.drop_zero] at this
            exact nd_inj this
          have HC := Lib.hid (show cmpN x y = 0 by rw [he]; exact cmpN_eq y)
          clear he
          go_wp2
          go_ret
          exact ⟨by rw [HC.out]; rfl, Below.drewNs HB2.out n⟩
        · obtain ⟨m, rfl⟩ : ∃ m, k = m + 1 := ⟨k - 1, by omega⟩
          rw [show ((m + 1 : Nat) : Int) - 1 = (m : Int) from by omega]
          obtain ⟨b1, o1, hA1, _, hc1⟩ := HX.out.cells (by omega)
          obtain ⟨b2, o2, hA2, _, hc2⟩ := HY.out.cells (by have := HLL.out; omega)
          subst hA1 hA2
          have hcell1 : (w2.drewN n).cell? ⟨b1, o1 + m, none⟩ = some (.int .u32 (((nd x)[m]?.getD 0 : Nat) : Int)) := by rw [World.cell?_drewN]; exact hc1 m (by omega)
          have hcell2 : (w2.drewN n).cell? ⟨b2, o2 + m, none⟩ = some (.int .u32 (((nd y)[m]?.getD 0 : Nat) : Int)) := by rw [World.cell?_drewN]; exact hc2 m (by have := HLL.out; omega)
          have hm1 : (m : Int) < ((nd x).length : Int) := by omega
          have hm2 : (m : Int) < ((nd y).length : Int) := by have := HLL.out; omega
          have HL := Lib.hid (fun h => cmpN_lt (x := x) (y := y) (by have := cmp_at (dg_nd x) (dg_nd y) HLL.out (i := m) (by omega) HDR.out h; rwa [vN_nd, vN_nd] at this))
          have HG := Lib.hid (fun h => cmpN_gt (x := x) (y := y) (by have := cmp_at (dg_nd y) (dg_nd x) HLL.out.symm (i := m) (by have := HLL.out; omega) HDR.out.symm h; rwa [vN_nd, vN_nd] at this))
          have HE := Lib.hid (fun h => drop_step (a := nd x) (b := nd y) (i := m) (by omega) HLL.out HDR.out h)
          clear hc1 hc2 h0
          generalize (nd x)[m]?.getD 0 = p at *
          generalize (nd y)[m]?.getD 0 = q at *
          obtain ⟨W, hW⟩ : ∃ W, W = w2.drewN n := ⟨_, rfl⟩
          rw [← hW] at hcell1 hcell2 ⊢
          have KW := Lib.hid hW; clear hW
          rcases Nat.lt_trichotomy p q with h1 | h1 | h1
          · have HC := Lib.hid (HL.out h1)
            have g1 : (p : Int) < (q : Int) := by omega
            clear h1
            go_wp2
            go_quiet (fail)
            go_wp2
            go_ret
            exact ⟨by rw [HC.out]; rfl, by rw [KW.out]; exact Below.drewNs (Below.drewNs HB2.out _) _⟩
          · have HC := Lib.hid (HE.out h1)
            subst h1
            go_wp2
            go_quiet (fail)
            go_wp2
            go_quiet (fail)
            go_wp2
            go_roundw
            case rel => exact ⟨m, _, by omega, rfl, by rw [KW.out, World.drewN_drewN], HC.out⟩
            case measure => simp [intOf]
          · have HC := Lib.hid (HG.out h1)
            have g1 : ¬ (p : Int) < (q : Int) := by omega
            have g2 : (q : Int) < (p : Int) := by omega
            clear h1
            go_wp2
            go_quiet (fail)
            go_wp2
            go_quiet (fail)
            go_wp2
            go_ret
            exact ⟨by rw [HC.out]; rfl, by rw [KW.out]; exact Below.drewNs (Below.drewNs (Below.drewNs HB2.out _) _) _⟩

/-- One digit more of a difference. -/
theorem sub_step {a b O : List Nat} {i c : Nat} (hO : O.length = i) (h : vN O + vN (b.take i) = vN (a.take i) + 4294967296 ^ i * c) {s : Nat} (hs : s + b[i]?.getD 0 + c = a[i]?.getD 0 + 4294967296) (hc : s < 8589934592) :
    vN (O ++ [s % 4294967296]) + vN (b.take (i + 1)) = vN (a.take (i + 1)) + 4294967296 ^ (i + 1) * (1 - s / 4294967296) := by
  rw [vN_snoc, vN_take_succ, vN_take_succ, hO, Nat.pow_succ, Nat.mul_assoc]
  have e : 4294967296 ^ i * (s % 4294967296) + 4294967296 ^ i * (b[i]?.getD 0) + 4294967296 ^ i * c = 4294967296 ^ i * (a[i]?.getD 0) + 4294967296 ^ i * (4294967296 * (1 - s / 4294967296)) := by
    rw [← Nat.mul_add, ← Nat.mul_add, ← Nat.mul_add]
    congr 1
    omega
  omega

set_option maxRecDepth 100000 in
set_option maxHeartbeats 4000000 in
theorem sub02_less (a b : List Nat) (A B : Option Addr) (ca cb : Nat) (w : World) (ha : NatA w A a ca) (hb : NatA w B b cb) (hlt : vN a < vN b) :
    Calls Try.prog 59 #[.slice A a.length ca, .slice B b.length cb] w fun e w' => e = .returned (.tuple #[.slice none 0 0, .bool false]) ∧ Below w.heap.size w w' := by
  have H := cmp02_any a b A B ca cb w ha hb
  rw [cmpN_lt hlt] at H
  have HC := Lib.hid H
  clear ha hb hlt H
  go_enter Try.func59, Try.ntmps59
  go_wp2_with fail
  refine HC.out.mono ?_
  rintro e w1 ⟨rfl, hb⟩
  have HB := Lib.hid hb
  clear hb
  go_wp2
  go_ret2
  exact ⟨rfl, HB.out⟩

set_option maxRecDepth 100000 in
set_option maxHeartbeats 4000000 in
theorem sub02_any (a b : List Nat) (A B : Option Addr) (ca cb : Nat) (w : World) (ha : NatA w A a ca) (hb : NatA w B b cb) (hge : vN b ≤ vN a) (hla : a.length ≤ 90000) (hlb : b.length ≤ 90000) :
    Calls Try.prog 59 #[.slice A a.length ca, .slice B b.length cb] w fun e w' => (∃ v, e = .returned (.tuple #[v, .bool true]) ∧ IsN w' v (vN a - vN b)) ∧ Below w.heap.size w w' := by
  obtain ⟨i0, hi, hz0, hz1, hz2⟩ := info_parts info_u32
  have HI := Lib.hid hi; have HZ0 := Lib.hid hz0; have HZ1 := Lib.hid hz1; have HZ2 := Lib.hid hz2
  have HA := Lib.hid ha; have HB := Lib.hid hb
  have HGE := Lib.hid hge
  have HCM := Lib.hid (cmp02_any a b A B ca cb w ha hb)
  have hcm : decide (cmpN (vN a) (vN b) < 0) = false := by
    rw [decide_eq_false_iff_not]; unfold cmpN; split
    · omega
    · split <;> omega
  obtain ⟨M, hM1, hM2, hM3, hM4⟩ : ∃ M, a.length ≤ M ∧ b.length ≤ M ∧ (M = a.length ∨ M = b.length) ∧ M ≤ 90000 := ⟨max a.length b.length, by omega, by omega, by omega, by omega⟩
  clear hi hz0 hz1 hz2 ha hb hge
  generalize cmpN (vN a) (vN b) = cm at *
  go_enter Try.func59, Try.ntmps59
  go_wp2_with fail
  refine HCM.out.mono ?_
  rintro e w0 ⟨rfl, hb0⟩
  have HB0 := Lib.hid hb0
  have hsz0 := hb0.size
  clear hb0
  go_wp2_with fail
  go_loopw [6, 7, 8] (fun v cy i wr => ∃ (k c : Nat) (O : List Nat), i = .int .i64 (k : Int) ∧ cy = .int .u64 (c : Int) ∧ wr.ownsRow w.heap.size 92 1 v k (nV O) ∧ O.length = k ∧ dg O ∧ c ≤ 1 ∧ k ≤ M ∧ vN O + vN (b.take k) = vN (a.take k) + 4294967296 ^ k * c ∧ Below w.heap.size w wr) (fun _ _ i _ => M + 1 - (intOf i).toNat)
  case atStart => exact ⟨0, 0, [], rfl, rfl, own_nil_nV _ _ _, rfl, dg_nil, by decide, by omega, by simp [vN], HB0.out⟩
  case round =>
    obtain ⟨k, c, O, rfl, rfl, hown, hOl, hdO, hc1, hk1, hval, hbel⟩ := hrel
    have HO := Lib.hid hown; have HOL := Lib.hid hOl; have HDO := Lib.hid hdO; have HV := Lib.hid hval; have HBL := Lib.hid hbel
    clear hown hOl hdO hval hbel
    by_cases hend : k = M
    · have e1 : ¬ ((k : Int) < (a.length : Int)) := by omega
      have e2 : ¬ ((k : Int) < (b.length : Int)) := by omega
      have hsum : vN O = vN a - vN b := by
        have h1 := HV.out
        rw [vN_take_all a (by omega), vN_take_all b (by omega)] at h1
        have h2 := vN_lt HDO.out
        rw [HOL.out] at h2
        have h3 := HGE.out
        have hc0 : c = 0 := by
          rcases (by omega : c = 0 ∨ c = 1) with h | h
          · exact h
          · subst h; rw [Nat.mul_one] at h1; omega
        subst hc0
        rw [Nat.mul_zero, Nat.add_zero] at h1
        omega
      obtain ⟨A2, c2, rfl, hN⟩ := NatA.own HO.out HOL.out HDO.out (by have := HOL.out; omega)
      have HT := Lib.hid (trim_any O A2 c2 wr hN)
      rw [hsum] at HT
      clear hsum hN
      go_wp2_with fail
      refine HT.out.mono ?_
      rintro e w1 ⟨⟨v, rfl, hv⟩, hb⟩
      have HR := Lib.hid hv
      have HB2 := Lib.hid (hb.mono HBL.out.size)
      clear hv hb
      go_wp2
      go_ret2
      exact ⟨⟨_, rfl, HR.out⟩, HBL.out.trans HB2.out⟩
    · have HGO := Lib.hid (show ((k : Int) < (a.length : Int)) ∨ (¬ ((k : Int) < (a.length : Int)) ∧ ((k : Int) < (b.length : Int))) by omega)
      have hka := dg_get HA.out.dig k
      have hkb := dg_get HB.out.dig k
      have hAT := fun W h => at02_any a A ca k (by omega) W (HA.out.below h)
      have hBT := fun W h => at02_any b B cb k (by omega) W (HB.out.below h)
      have hstep := fun s hs => sub_step (a := a) (b := b) (s := s) HOL.out HV.out hs
      have HST := Lib.hid hstep
      have HAT := Lib.hid hAT; have HBT := Lib.hid hBT
      clear hAT hBT hstep
      generalize a[k]?.getD 0 = x at *
      generalize b[k]?.getD 0 = y at *
      rcases HGO.out with h1 | ⟨h1, h2⟩
      all_goals
        go_wp2_with fail
        refine (HAT.out _ HBL.out).mono ?_
        rintro e w1 ⟨rfl, rfl⟩
        go_wp2_with fail
        refine (HBT.out _ HBL.out).mono ?_
        rintro e w1 ⟨rfl, rfl⟩
        go_wp2_with (at_builtin; refine wpList_append_own _ rfl _ _ 35 rfl w.heap.size 92 i0 (.int .u32 0) 1 4 Try.underlying35 HI.out HZ0.out HZ1.out HZ2.out rfl (by decide) _ _ _ rfl (HO.out.alloc _) ⟨wr.heap.size, 0, none⟩ 1 1 [_] rfl rfl (cell_one_new _ _ _) (by simp [Value.oneCell']) (by unfold maxLen; omega) (by omega) (by have := HBL.out.size; simp; omega) ?_; intro v' w1 hown' hgrow _)
        go_roundw
        case rel =>
          have hb3 := HBL.out.size
          have hO := HOL.out
          obtain ⟨s, hs⟩ : ∃ s : Nat, s = x + 4294967296 - y - c := ⟨_, rfl⟩
          exact ⟨k + 1, 1 - s / 4294967296, O ++ [s % 4294967296], by go_num, by congr 1; omega, by
            rw [nV_snoc]
            have e : (((s % 4294967296 : Nat)) : Int) = ((x : Int) + 4294967296 - (y : Int) - (c : Int)) % 4294967296 := by omega
            rw [e]; exact hown', by rw [List.length_append, hO]; rfl, dg_snoc HDO.out (by omega), by omega, by omega, HST.out s (by omega) (by omega), (HBL.out.alloc hb3 _).grown hgrow (by simp; omega) (own_from HO.out)⟩
        case measure => simp [intOf]; omega
end Go.Proofs.Ytigacobphgeeaaa

/- Contracts of the document's whole numbers: Mul. -/
set_option linter.unusedVariables false
namespace Lev
theorem mul_step {O b : List Nat} {i k c T x y z s : Nat} (hO : i + k < O.length) (h : vN O + 4294967296 ^ (i + k) * c = T + x * (4294967296 ^ i * vN (b.take k))) (hy : y = b[k]?.getD 0) (hz : z = O[i + k]?.getD 0) (hs : s = x * y + z + c) :
    vN (O.set (i + k) (s % 4294967296)) + 4294967296 ^ (i + (k + 1)) * (s / 4294967296) = T + x * (4294967296 ^ i * vN (b.take (k + 1))) := by
  have h1 := vN_set hO (s % 4294967296)
  rw [← hz] at h1
  rw [vN_take_succ, ← hy, ← Nat.add_assoc, Nat.pow_succ, Nat.mul_assoc]
  have e : 4294967296 ^ (i + k) * (s % 4294967296) + 4294967296 ^ (i + k) * (4294967296 * (s / 4294967296)) = 4294967296 ^ (i + k) * (x * y) + 4294967296 ^ (i + k) * z + 4294967296 ^ (i + k) * c := by
    rw [← Nat.mul_add, ← Nat.mul_add, ← Nat.mul_add, ← hs, Nat.mod_add_div]
  have e2 : x * (4294967296 ^ i * (vN (b.take k) + 4294967296 ^ k * y)) = x * (4294967296 ^ i * vN (b.take k)) + 4294967296 ^ (i + k) * (x * y) := by
    rw [Nat.mul_add, Nat.mul_add, ← Nat.mul_assoc (4294967296 ^ i) (4294967296 ^ k) y, ← Nat.pow_add, Nat.mul_left_comm x (4294967296 ^ (i + k)) y]
  omega
theorem mul_last {O b : List Nat} {i c T x : Nat} (hO : i + b.length < O.length) (h : vN O + 4294967296 ^ (i + b.length) * c = T + x * (4294967296 ^ i * vN (b.take b.length))) (hz : O[i + b.length]?.getD 0 = 0) :
    vN (O.set (i + b.length) c) = T + x * (4294967296 ^ i * vN b) := by
  have h1 := vN_set hO c
  rw [hz, Nat.mul_zero, Nat.add_zero] at h1
  rw [List.take_length] at h
  omega
theorem set_zero {O : List Nat} {p d m : Nat} (h : ∀ j, m ≤ j → O[j]?.getD 0 = 0) (hp : p < m) : ∀ j, m ≤ j → (O.set p d)[j]?.getD 0 = 0 := fun j hj => by
  rw [List.getElem?_set_ne (by omega)]; exact h j hj
theorem mul_le32 {x y : Nat} (hx : x < 4294967296) (hy : y < 4294967296) : x * y ≤ 18446744065119617025 := by
  have := Nat.mul_le_mul (show x ≤ 4294967295 by omega) (show y ≤ 4294967295 by omega)
  omega
end Lev
namespace Go.Proofs.Ytigacobphgeeaaa
open Go.RowKit Go.Shelf Lev

theorem nV_set (O : List Nat) (p d : Nat) : (nV O).toArray.setIfInBounds p (.int .u32 (d : Int)) = (nV (O.set p d)).toArray := by
  unfold nV; rw [List.map_set, List.setIfInBounds_toArray]
theorem nV_zeros (n : Nat) : madeCells #[.int .u32 0] n = (nV (List.replicate n 0)).toArray := by
  apply Array.ext
  · simp [madeCells, nV]
  · intro i h1 h2
    have h3 : i < n := by simpa [madeCells] using h1
    have h4 := cells_zero n (.int .u32 0) i h3
    rw [Array.getElem?_eq_getElem h1] at h4
    have h5 := Option.some.inj h4
    rw [h5]
    simp [nV]
theorem NatA.blk {w : World} {g : Nat} {t : TypeId} {O : List Nat} (h : Bk w g t (nV O).toArray) (hd : dg O) (hl : O.length ≤ 100000) : NatA w (some ⟨g, 0, none⟩) O O.length :=
  ⟨SlV.made h (by rw [nV_length]; exact Nat.le_refl _) (by omega) (by rw [nV_length, ← nV_length]; exact List.take_length), hd, hl⟩
theorem Bk.digit {w : World} {g : Nat} {t : TypeId} {O : List Nat} (h : Bk w g t (nV O).toArray) {j : Nat} (hj : j < O.length) : w.cell? ⟨g, j, none⟩ = some (.int .u32 ((O[j]?.getD 0 : Nat) : Int)) := by
  rw [h.cell, List.getElem?_toArray, nV_get hj]

set_option maxRecDepth 100000 in
set_option maxHeartbeats 4000000 in
theorem mul02_any (a b : List Nat) (A B : Option Addr) (ca cb : Nat) (w : World) (ha : NatA w A a ca) (hb : NatA w B b cb) (hla : a.length ≤ 40000) (hlb : b.length ≤ 40000) :
    Calls Try.prog 53 #[.slice A a.length ca, .slice B b.length cb] w fun e w' => (∃ v, e = .returned v ∧ IsN w' v (vN a * vN b)) ∧ Below w.heap.size w w' := by
  have HA := Lib.hid ha; have HB := Lib.hid hb
  have hmk := fun w => run_make_row' (P := Try.prog) 35 92 (.int .u32 0) 4 Try.underlying35 info_u32 rfl .i64 .i64 (a.length + b.length) (by omega) (by omega) w
  rw [Int.natCast_add] at hmk
  clear ha hb
  go_enter Try.func53, Try.ntmps53
  go_wp2_with fail
  rw [nV_zeros]
  clear hmk
  go_loopw [6] (fun i wr => ∃ (k : Nat) (O : List Nat), k ≤ a.length ∧ i = .int .i64 (k : Int) ∧ Bk wr w.heap.size 92 (nV O).toArray ∧ O.length = a.length + b.length ∧ dg O ∧ vN O = vN (a.take k) * vN b ∧ (∀ j, k + b.length ≤ j → O[j]?.getD 0 = 0) ∧ Below w.heap.size w wr) (fun i _ => a.length - (intOf i).toNat)
  case atStart => exact ⟨0, List.replicate (a.length + b.length) 0, Nat.zero_le _, rfl, Bk.new _ _ _, List.length_replicate, dg_zeros _, by rw [vN_zeros, List.take_zero]; simp [vN], fun j _ => by
    by_cases h : j < a.length + b.length
    · rw [List.getElem?_replicate_of_lt h]; rfl
    · rw [List.getElem?_eq_none (by rw [List.length_replicate]; omega)]; rfl, (Below.refl _ _).alloc (Nat.le_refl _) _⟩
  case round =>
    obtain ⟨i, O, hi, rfl, hO, hOl, hdO, hval, hz, hbel⟩ := hrel
    by_cases hlt : (i : Int) < (a.length : Int)
    · have hka := dg_get HA.out.dig i
      have HSTEP := Lib.hid (vN_take_succ a i)
      obtain ⟨ba, oa, hAA, hba, hcA⟩ := HA.out.cells (by omega)
      have HCA := Lib.hid (hcA i (by omega))
      have HO := Lib.hid hO; have HOL := Lib.hid hOl; have HDO := Lib.hid hdO; have HV := Lib.hid hval; have HZ := Lib.hid hz; have HBL := Lib.hid hbel
      subst hAA
      clear hO hOl hdO hval hz hbel hcA
      generalize a[i]?.getD 0 = x at *
      go_wp2_with fail
      go_loopw [7, 8] (fun cy kk wq => ∃ (k c : Nat) (P : List Nat), k ≤ b.length ∧ kk = .int .i64 (k : Int) ∧ cy = .int .u64 (c : Int) ∧ c < 4294967296 ∧ Bk wq w.heap.size 92 (nV P).toArray ∧ P.length = a.length + b.length ∧ dg P ∧ vN P + 4294967296 ^ (i + k) * c = vN (a.take i) * vN b + x * (4294967296 ^ i * vN (b.take k)) ∧ (∀ j, i + b.length ≤ j → P[j]?.getD 0 = 0) ∧ Below w.heap.size w wq) (fun _ kk _ => b.length - (intOf kk).toNat)
      case atStart => exact ⟨0, 0, O, Nat.zero_le _, rfl, rfl, by decide, HO.out, HOL.out, HDO.out, by rw [HV.out, List.take_zero]; simp [vN], HZ.out, HBL.out⟩
      case round =>
        obtain ⟨k, c, P, hk, rfl, rfl, hc, hP, hPl, hdP, hval, hz, hbel⟩ := hrel
        have HP := Lib.hid hP; have HPL := Lib.hid hPl; have HDP := Lib.hid hdP; have HV2 := Lib.hid hval; have HZ2 := Lib.hid hz; have HBL2 := Lib.hid hbel
        clear hP hPl hdP hval hz hbel
        by_cases hkl : (k : Int) < (b.length : Int)
        · have hkb := dg_get HB.out.dig k
          have hkz := dg_get HDP.out (i + k)
          have hgl : w.heap.size < wr.heap.size := HP.out.lt
          obtain ⟨bb, ob, hBB, hbb, hcB⟩ := HB.out.cells (by omega)
          subst hBB
          have c1 : wr.cell? ⟨ba, oa + i, none⟩ = some (.int .u32 (x : Int)) := (HBL2.out.cell (p := ⟨ba, oa + i, none⟩) hba).trans HCA.out
          have c2 : wr.cell? ⟨bb, ob + k, none⟩ = some (.int .u32 ((b[k]?.getD 0 : Nat) : Int)) := (HBL2.out.cell (p := ⟨bb, ob + k, none⟩) hbb).trans (hcB k (by omega))
          have c3 := HP.out.digit (j := i + k) (by have := HPL.out; omega)
          have hi3 : (i : Int) + (k : Int) < (a.length : Int) + (b.length : Int) := by omega
          have hst := fun s hs => mul_step (y := b[k]?.getD 0) (z := P[i + k]?.getD 0) (s := s) (by have := HPL.out; omega) HV2.out rfl rfl hs
          have HST := Lib.hid hst
          have f3 := HP.out.frozen (i + k)
          clear hst hcB
          generalize b[k]?.getD 0 = y at *
          generalize P[i + k]?.getD 0 = z at *
          obtain ⟨p, hp⟩ : ∃ p, p = x * y := ⟨_, rfl⟩
          have hp2 : p ≤ 18446744065119617025 := by rw [hp]; exact mul_le32 hka hkb
          have hpw : IntKind.u64.wrap ((x : Int) * (y : Int)) = (p : Int) := by rw [hp, Int.natCast_mul, IntKind.wrap_u64]; have := mul_le32 hka hkb; have h2 : ((x * y : Nat) : Int) = (x : Int) * (y : Int) := Int.natCast_mul _ _; omega
          have HPP := Lib.hid hp
          clear hp
          go_wp2
          go_quiet (fail)
          go_wp2
          go_roundw
          case rel =>
            have hbk := (HP.out.drewN nq).set (i + k) (.int .u32 (((p + z + c) % 4294967296 : Nat) : Int))
            rw [nV_set] at hbk
            have e : (((p + z + c) % 4294967296 : Nat) : Int) = ((p : Int) + (z : Int) + (c : Int)) % 4294967296 := by omega
            rw [e] at hbk
            exact ⟨k + 1, (p + z + c) / 4294967296, P.set (i + k) ((p + z + c) % 4294967296), by omega, by go_num, by congr 1, by omega, hbk, by rw [List.length_set]; exact HPL.out, dg_set HDP.out _ (by omega), HST.out _ (by rw [HPP.out]), set_zero HZ2.out (by omega),
              (Below.drewNs HBL2.out nq).setCell (p := ⟨w.heap.size, i + k, none⟩) (Nat.le_refl _) _⟩
          case measure => simp [intOf]; omega
        · obtain rfl : k = b.length := by omega
          have hgl : w.heap.size < wr.heap.size := HP.out.lt
          have c3 := HP.out.digit (j := i + b.length) (by have := HPL.out; omega)
          have hi3 : (i : Int) + (b.length : Int) < (a.length : Int) + (b.length : Int) := by omega
          have f3 := HP.out.frozen (i + b.length)
          have hlast := mul_last (by have := HPL.out; omega) HV2.out (HZ2.out _ (Nat.le_refl _))
          have HLAST := Lib.hid hlast
          clear hlast
          go_wp2
          go_roundw
          case rel =>
            have hbk := HP.out.set (i + b.length) (.int .u32 (c : Int))
            rw [nV_set] at hbk
            exact ⟨i + 1, P.set (i + b.length) c, by omega, by go_num, hbk, by rw [List.length_set]; exact HPL.out, dg_set HDP.out _ hc, by rw [HLAST.out, HSTEP.out, Nat.add_mul, Nat.mul_assoc, Nat.mul_left_comm], fun j hj => set_zero (m := i + b.length + 1) (fun j hj => HZ2.out j (by omega)) (by omega) j (by omega),
              HBL2.out.setCell (p := ⟨w.heap.size, i + b.length, none⟩) (Nat.le_refl _) _⟩
          case measure => simp [intOf]; omega
    · obtain rfl : i = a.length := by omega
      have hN := NatA.blk hO hdO (by omega)
      have HT := trim_any O _ _ wr hN
      rw [hval, vN_take_all a (Nat.le_refl _), hOl] at HT
      have HT := Lib.hid HT
      have HBL := Lib.hid hbel
      clear hN hO hOl hdO hval hz hbel
      go_wp2_with fail
      refine HT.out.mono ?_
      rintro e w1 ⟨⟨v, rfl, hv⟩, hb⟩
      have HR := Lib.hid hv
      have HB2 := Lib.hid (hb.mono HBL.out.size)
      clear hv hb
      go_wp2
      go_ret
      exact ⟨⟨_, rfl, HR.out⟩, HBL.out.trans HB2.out⟩
end Go.Proofs.Ytigacobphgeeaaa

/- Contracts of the document's whole numbers: Shl, Shr. -/
set_option linter.unusedVariables false
namespace Lev
theorem shl_step {O n : List Nat} {q r i c s : Nat} (hO : O.length = q + i) (h : vN O + 4294967296 ^ (q + i) * c = vN (n.take i) * (4294967296 ^ q * 2 ^ r)) (hs : s = n[i]?.getD 0 * 2 ^ r + c) :
    vN (O ++ [s % 4294967296]) + 4294967296 ^ (q + (i + 1)) * (s / 4294967296) = vN (n.take (i + 1)) * (4294967296 ^ q * 2 ^ r) := by
  rw [vN_snoc, vN_take_succ, hO, ← Nat.add_assoc, Nat.pow_succ, Nat.mul_assoc, Nat.add_mul]
  have e : 4294967296 ^ (q + i) * (s % 4294967296) + 4294967296 ^ (q + i) * (4294967296 * (s / 4294967296)) = 4294967296 ^ (q + i) * (n[i]?.getD 0 * 2 ^ r) + 4294967296 ^ (q + i) * c := by
    rw [← Nat.mul_add, ← Nat.mul_add, ← hs, Nat.mod_add_div]
  have e2 : 4294967296 ^ i * n[i]?.getD 0 * (4294967296 ^ q * 2 ^ r) = 4294967296 ^ (q + i) * (n[i]?.getD 0 * 2 ^ r) := by
    rw [Nat.pow_add]
    simp only [Nat.mul_assoc, Nat.mul_comm, Nat.mul_left_comm]
  omega
end Lev
namespace Go.Proofs.Ytigacobphgeeaaa
open Go.RowKit Go.Shelf Lev

theorem zeros_own {w : World} {n : Nat} {e : TypeId} (hn : n ≤ 100000) : (w.alloc (.cells (madeCells #[.int .u32 0] n) e)).ownsRow w.heap.size e 1 (.slice (some ⟨w.heap.size, 0, none⟩) n n) n (nV (List.replicate n 0)) := by
  rw [nV_zeros]
  refine ⟨by rw [nV_length, List.length_replicate, Nat.mul_one], .inr ⟨_, n, _, rfl, Nat.le_refl _, heap_alloc_new _ _, Nat.le_refl _, by unfold maxLen; omega, ?_, ?_⟩⟩
  · simp [nV]
  · rw [Nat.mul_one]
    show (nV (List.replicate n 0)).take n = _
    rw [List.take_of_length_le]; rw [nV_length, List.length_replicate]; exact Nat.le_refl _

set_option maxRecDepth 100000 in
set_option maxHeartbeats 4000000 in
theorem shl02_any (n : List Nat) (A : Option Addr) (ca : Nat) (k : Nat) (hk : k ≤ 100000) (w : World) (ha : NatA w A n ca) (hla : n.length ≤ 40000) :
    Calls Try.prog 57 #[.slice A n.length ca, .int .i64 (k : Int)] w fun e w' => (∃ v, e = .returned v ∧ IsN w' v (vN n * 2 ^ k)) ∧ Below w.heap.size w w' := by
  obtain ⟨i0, hi, hz0, hz1, hz2⟩ := info_parts info_u32
  have HI := Lib.hid hi; have HZ0 := Lib.hid hz0; have HZ1 := Lib.hid hz1; have HZ2 := Lib.hid hz2
  have HA := Lib.hid ha
  obtain ⟨q, hq⟩ : ∃ q, q = k / 32 := ⟨_, rfl⟩
  obtain ⟨r, hr⟩ : ∃ r, r = k % 32 := ⟨_, rfl⟩
  have hq1 : q ≤ 3125 := by omega
  have hr1 : r < 32 := by omega
  have hQ : (k : Int) / 32 = (q : Int) := by omega
  have hR : (k : Int) % 32 = (r : Int) := by omega
  have hmk := fun w => run_make_row' (P := Try.prog) 35 92 (.int .u32 0) 4 Try.underlying35 info_u32 rfl .i64 .i64 q (by omega) (by omega) w
  have e2 : (2 : Nat) ^ k = 4294967296 ^ q * 2 ^ r := by rw [hq, hr]; exact two_pow_split k
  rw [e2]
  have HE := Lib.hid e2
  clear ha hi hz0 hz1 hz2 e2 hq hr
  go_enter Try.func57, Try.ntmps57
  go_wp2_with fail
  clear hmk hQ
  go_loopw [5, 6, 7] (fun v cy i wr => ∃ (k c : Nat) (O : List Nat), k ≤ n.length ∧ i = .int .i64 (k : Int) ∧ cy = .int .u64 (c : Int) ∧ c < 2 ^ r ∧ wr.ownsRow w.heap.size 92 1 v (q + k) (nV O) ∧ O.length = q + k ∧ dg O ∧ vN O + 4294967296 ^ (q + k) * c = vN (n.take k) * (4294967296 ^ q * 2 ^ r) ∧ Below w.heap.size w wr) (fun _ _ i _ => n.length - (intOf i).toNat)
  case atStart => exact ⟨0, 0, List.replicate q 0, Nat.zero_le _, rfl, rfl, Nat.pow_pos (by decide), zeros_own (by omega), List.length_replicate, dg_zeros _, by rw [vN_zeros]; simp [vN], (Below.refl _ _).alloc (Nat.le_refl _) _⟩
  case round =>
    obtain ⟨i, c, O, hin, rfl, rfl, hc, hown, hOl, hdO, hval, hbel⟩ := hrel
    have HO := Lib.hid hown; have HOL := Lib.hid hOl; have HDO := Lib.hid hdO; have HV := Lib.hid hval; have HBL := Lib.hid hbel; have HC := Lib.hid hc
    have hR2 : 2 ^ r ≤ 2147483648 := by
      have := Nat.pow_le_pow_right (n := 2) (by decide) (show r ≤ 31 by omega)
      exact Nat.le_trans this (by decide)
    have hc32 : c < 2147483648 := by omega
    clear hown hOl hdO hval hbel hc
    by_cases hlt : (i : Int) < (n.length : Int)
    · have hd := dg_get HA.out.dig i
      obtain ⟨b, off, hAA, hba, hcA⟩ := HA.out.cells (by omega)
      subst hAA
      have hcell : wr.cell? ⟨b, off + i, none⟩ = some (.int .u32 ((n[i]?.getD 0 : Nat) : Int)) := (HBL.out.cell (p := ⟨b, off + i, none⟩) hba).trans (hcA i (by omega))
      have HST := Lib.hid (fun s hs => shl_step (n := n) (r := r) (s := s) HOL.out HV.out hs)
      clear hcA
      generalize n[i]?.getD 0 = d at *
      obtain ⟨p, hp⟩ : ∃ p, p = d * 2 ^ r := ⟨_, rfl⟩
      have hp2 : p + 2 ^ r ≤ 4294967296 * 2 ^ r := by
        rw [hp, ← Nat.succ_mul]; exact Nat.mul_le_mul hd (Nat.le_refl _)
      have hp3 : p + c < 4294967296 * 2147483648 := by have := HC.out; omega
      have hs3 : (p + c) / 4294967296 < 2 ^ r := by have := HC.out; omega
      have HS3 := Lib.hid hs3
      have hsh : IntKind.u64.wrap ((d : Int) * 2 ^ r) = (p : Int) := by
        have e : (d : Int) * 2 ^ r = (p : Int) := by rw [hp, Int.natCast_mul, Int.natCast_pow]; rfl
        rw [e, IntKind.wrap_u64]
        omega
      have HP := Lib.hid hp
      clear hp hp2 hs3 hR2
      go_wp2_with (at_builtin; refine wpList_append_own _ rfl _ _ 35 rfl w.heap.size 92 i0 (.int .u32 0) 1 4 Try.underlying35 HI.out HZ0.out HZ1.out HZ2.out rfl (by decide) _ _ _ rfl (HO.out.alloc _) ⟨wr.heap.size, 0, none⟩ 1 1 [_] rfl rfl (cell_one_new _ _ _) (by simp [Value.oneCell']) (by unfold maxLen; omega) (by omega) (by have := HBL.out.size; simp; omega) ?_; intro v' w1 hown' hgrow _)
      go_roundw
      case rel =>
        have hb3 := HBL.out.size
        have hO := HOL.out
        exact ⟨i + 1, (p + c) / 4294967296, O ++ [(p + c) % 4294967296], by omega, by go_num, by congr 1, HS3.out, by
          rw [nV_snoc, ← Nat.add_assoc]; exact hown', by rw [List.length_append, hO]; rfl, dg_snoc HDO.out (by omega), HST.out _ (by rw [HP.out]), (HBL.out.alloc hb3 _).grown hgrow (by simp; omega) (own_from HO.out)⟩
      case measure => simp [intOf]; omega
    · obtain rfl : i = n.length := by omega
      have hsum : vN (O ++ [c]) = vN n * (4294967296 ^ q * 2 ^ r) := by
        rw [vN_snoc, HOL.out]
        have := HV.out
        rwa [vN_take_all n (Nat.le_refl _)] at this
      have HSUM := Lib.hid hsum
      have hdc : dg (O ++ [c]) := dg_snoc HDO.out (by omega)
      have HDC := Lib.hid hdc
      have hlc : (O ++ [c]).length = q + n.length + 1 := by rw [List.length_append, HOL.out]; rfl
      have HLC := Lib.hid hlc
      clear hsum hdc hlc hR2
      go_wp2_with (at_builtin; refine wpList_append_own _ rfl _ _ 35 rfl w.heap.size 92 i0 (.int .u32 0) 1 4 Try.underlying35 HI.out HZ0.out HZ1.out HZ2.out rfl (by decide) _ _ _ rfl (HO.out.alloc _) ⟨wr.heap.size, 0, none⟩ 1 1 [_] rfl rfl (cell_one_new _ _ _) (by simp [Value.oneCell']) (by unfold maxLen; omega) (by omega) (by have := HBL.out.size; simp; omega) ?_; intro v' w1 hown' hgrow _)
      rw [← nV_snoc] at hown'
      obtain ⟨A2, c2, rfl, hN⟩ := NatA.own hown' HLC.out HDC.out (by have := HLC.out; omega)
      have HBL1 := Lib.hid (show Below w.heap.size w w1 from (HBL.out.alloc HBL.out.size _).grown hgrow (by have := HBL.out.size; simp; omega) (own_from HO.out))
      have HT := trim_any _ A2 c2 w1 hN
      rw [HSUM.out] at HT
      have HT := Lib.hid HT
      clear hown' hgrow hN
      go_wp2_with fail
      refine HT.out.mono ?_
      rintro e w2 ⟨⟨v, rfl, hv⟩, hb⟩
      have HR := Lib.hid hv
      have HB2 := Lib.hid (hb.mono HBL1.out.size)
      clear hv hb
      go_wp2
      go_ret
      exact ⟨⟨_, rfl, HR.out⟩, HBL1.out.trans HB2.out⟩
end Go.Proofs.Ytigacobphgeeaaa

/- Contracts of the document's whole numbers: Shr. -/
set_option linter.unusedVariables false
namespace Lev
theorem shr_step {O n : List Nat} {k q r j : Nat} (hn : dg n) (hq : q = k / 32) (hr : r = k % 32) (hO : O.length = j) (h : vN O = vN n / 2 ^ k % 4294967296 ^ j) :
    vN (O ++ [(n[q + j + 1]?.getD 0 * 4294967296 + n[q + j]?.getD 0) / 2 ^ r % 4294967296]) = vN n / 2 ^ k % 4294967296 ^ (j + 1) := by
  rw [vN_snoc, h, hO, Nat.pow_succ, Nat.mod_mul]
  congr 2
  have e : vN n / 2 ^ k / 4294967296 ^ j = vN (n.drop (q + j)) / 2 ^ r := by
    rw [vN_drop n (q + j) hn, Nat.div_div_eq_div_mul, Nat.div_div_eq_div_mul, two_pow_split k, ← hq, ← hr, Nat.pow_add]
    congr 1
    simp only [Nat.mul_assoc, Nat.mul_comm]
  rw [e, vN_head n (q + j), vN_head n (q + j + 1), shr_digit _ _ _ _ (by omega)]
theorem shr_end {n : List Nat} {k q j : Nat} (hn : dg n) (hq : q = k / 32) (h : n.length ≤ q + j) : vN n / 2 ^ k % 4294967296 ^ j = vN n / 2 ^ k := by
  refine Nat.mod_eq_of_lt ?_
  have h1 := vN_lt hn
  have h2 := Nat.pow_le_pow_right (n := 4294967296) (by decide) h
  rw [Nat.div_lt_iff_lt_mul (Nat.pow_pos (by decide)), two_pow_split k, ← hq]
  have h3 : (4294967296 : Nat) ^ (q + j) ≤ 4294967296 ^ j * (4294967296 ^ q * 2 ^ (k % 32)) := by
    rw [Nat.pow_add, Nat.mul_comm (4294967296 ^ q), ← Nat.mul_assoc]
    exact Nat.le_mul_of_pos_right _ (Nat.pow_pos (by decide))
  omega
theorem nd_len_of {ds : List Nat} (h : dg ds) : (nd (vN ds)).length ≤ ds.length := by
  by_cases h0 : vN ds = 0
  · rw [h0, nd_zero]; exact Nat.zero_le _
  · have h1 := nd_ge h0
    have h2 := vN_lt h
    rcases Nat.lt_or_ge ds.length (nd (vN ds)).length with h3 | h3
    · have := Nat.pow_le_pow_right (n := 4294967296) (by decide) (show ds.length ≤ (nd (vN ds)).length - 1 by omega)
      omega
    · exact h3
end Lev
namespace Go.Proofs.Ytigacobphgeeaaa
open Go.RowKit Go.Shelf Lev

set_option maxRecDepth 100000 in
set_option maxHeartbeats 4000000 in
theorem shr02_any (n : List Nat) (A : Option Addr) (ca : Nat) (k : Nat) (hk : k ≤ 100000) (w : World) (ha : NatA w A n ca) (hla : n.length ≤ 30000) :
    Calls Try.prog 82 #[.slice A n.length ca, .int .i64 (k : Int)] w fun e w' => (∃ v, e = .returned (.tuple #[v, .bool (cmpN (vN n / 2 ^ k * 2 ^ k) (vN n) == 0)]) ∧ IsN w' v (vN n / 2 ^ k)) ∧ Below w.heap.size w w' := by
  obtain ⟨i0, hi, hz0, hz1, hz2⟩ := info_parts info_u32
  have HI := Lib.hid hi; have HZ0 := Lib.hid hz0; have HZ1 := Lib.hid hz1; have HZ2 := Lib.hid hz2
  have HA := Lib.hid ha
  obtain ⟨q, hq⟩ : ∃ q, q = k / 32 := ⟨_, rfl⟩
  obtain ⟨r, hr⟩ : ∃ r, r = k % 32 := ⟨_, rfl⟩
  have hq1 : q ≤ 3125 := by omega
  have hr1 : r < 32 := by omega
  have hQ : (k : Int) / 32 = (q : Int) := by omega
  have hR : (k : Int) % 32 = (r : Int) := by omega
  have HSTEP := Lib.hid (fun O j (hO : O.length = j) h => shr_step (O := O) (j := j) HA.out.dig hq hr hO h)
  have HEND := Lib.hid (fun j h => shr_end (j := j) HA.out.dig hq h)
  clear ha hi hz0 hz1 hz2 hq hr
  generalize hN : vN n / 2 ^ k = N at *
  have HN := Lib.hid hN
  clear hN
  obtain ⟨cm, hcm⟩ : ∃ cm, cm = cmpN (N * 2 ^ k) (vN n) := ⟨_, rfl⟩
  rw [← hcm]
  have HCQ := Lib.hid hcm
  clear hcm
  go_enter Try.func82, Try.ntmps82
  go_wp2_with fail
  clear hQ
  go_loopw [6, 7] (fun v i wr => ∃ (j : Nat) (O : List Nat), (j = 0 ∨ q + j ≤ n.length) ∧ i = .int .i64 ((q + j : Nat) : Int) ∧ wr.ownsRow w.heap.size 92 1 v j (nV O) ∧ O.length = j ∧ dg O ∧ vN O = N % 4294967296 ^ j ∧ Below w.heap.size w wr) (fun _ i _ => n.length - (intOf i).toNat)
  case atStart => exact ⟨0, [], .inl rfl, rfl, own_nil_nV _ _ _, rfl, dg_nil, by rw [Nat.pow_zero, Nat.mod_one]; rfl, Below.refl _ _⟩
  case round =>
    obtain ⟨j, O, hj, rfl, hown, hOl, hdO, hval, hbel⟩ := hrel
    have HO := Lib.hid hown; have HOL := Lib.hid hOl; have HDO := Lib.hid hdO; have HV := Lib.hid hval; have HBL := Lib.hid hbel; have HJ := Lib.hid hj
    clear hown hOl hdO hval hbel hj
    obtain ⟨i, hi⟩ : ∃ i, i = q + j := ⟨_, rfl⟩
    rw [← hi]
    by_cases hlt : (i : Int) < (n.length : Int)
    · have hd0 := dg_get HA.out.dig i
      have hd1 := dg_get HA.out.dig (i + 1)
      obtain ⟨b, off, hAA, hba, hcA⟩ := HA.out.cells (by omega)
      subst hAA
      have hcell : wr.cell? ⟨b, off + i, none⟩ = some (.int .u32 ((n[i]?.getD 0 : Nat) : Int)) := (HBL.out.cell (p := ⟨b, off + i, none⟩) hba).trans (hcA i (by omega))
      have hAT := fun W h => at02_any n (some ⟨b, off, none⟩) ca (i + 1) (by have := HA.out.len; omega) W (HA.out.below h)
      rw [Int.natCast_add] at hAT
      have HAT := Lib.hid hAT
      have HST := Lib.hid (HSTEP.out O j HOL.out HV.out)
      rw [← hi] at HST
      have HIJ := Lib.hid hi
      clear hcA hAT hi
      generalize n[i]?.getD 0 = d0 at *
      generalize n[i + 1]?.getD 0 = d1 at *
      obtain ⟨p, hp⟩ : ∃ p, p = (d1 * 4294967296 + d0) / 2 ^ r := ⟨_, rfl⟩
      have hp2 : p < 18446744073709551616 := by
        rw [hp]; exact Nat.lt_of_le_of_lt (Nat.div_le_self _ _) (by omega)
      have hsh : ((d1 : Int) * 4294967296 + (d0 : Int)) / 2 ^ r = (p : Int) := by
        rw [hp, Int.natCast_ediv, Int.natCast_pow]; rfl
      have HP := Lib.hid hp
      clear hp
      have hq9 : j ≤ 30000 := by have := HJ.out; have := HIJ.out; omega
      go_wp2
      go_quiet (first | (go_at_call 84; exact q_of (HAT.out _ (Below.drewNs HBL.out _))))
      have HO2 : (wr.drewN nq).ownsRow w.heap.size 92 1 u6 j (nV O) := HO.out
      have HO3 := Lib.hid HO2
      have HBL3 := Lib.hid (Below.drewNs HBL.out nq)
      obtain ⟨W, hW⟩ : ∃ W, W = wr.drewN nq := ⟨_, rfl⟩
      rw [← hW] at HO3 HBL3 ⊢
      clear hW HO2
      go_wp2_with (at_builtin; refine wpList_append_own _ rfl _ _ 35 rfl w.heap.size 92 i0 (.int .u32 0) 1 4 Try.underlying35 HI.out HZ0.out HZ1.out HZ2.out rfl (by decide) _ _ _ rfl (HO3.out.alloc _) ⟨W.heap.size, 0, none⟩ 1 1 [_] rfl rfl (cell_one_new _ _ _) (by simp [Value.oneCell']) (by unfold maxLen; omega) (by omega) (by have := HBL3.out.size; simp; omega) ?_; intro v' w1 hown' hgrow _)
      go_roundw
      case rel =>
        have hb3 := HBL3.out.size
        have hO := HOL.out
        have hij := HIJ.out
        exact ⟨j + 1, O ++ [p % 4294967296], by omega, by rw [hij]; go_num, by
          rw [nV_snoc]; exact hown', by rw [List.length_append, hO]; rfl, dg_snoc HDO.out (by omega), by rw [HP.out]; exact HST.out, (HBL3.out.alloc hb3 _).grown hgrow (by simp; omega) (own_from HO3.out)⟩
      case measure => simp [intOf]; omega
    · have hjn : j ≤ 30000 := by have := HJ.out; omega
      have hsum : vN O = N := by
        rw [HV.out]; exact HEND.out j (by omega)
      obtain ⟨A2, c2, rfl, hNA⟩ := NatA.own HO.out HOL.out HDO.out (by have := HOL.out; omega)
      have HT := trim_any O A2 c2 wr hNA
      rw [hsum] at HT
      have HT := Lib.hid HT
      have hNl : (nd N).length ≤ 30000 := by
        have h1 := nd_len_of HDO.out
        rw [hsum, HOL.out] at h1; omega
      clear hsum hNA hi
      go_wp2_with fail
      refine HT.out.mono ?_
      rintro e w1 ⟨⟨v, rfl, B1, c1, rfl, hv⟩, hb⟩
      have HR := Lib.hid hv
      have HB1 := Lib.hid (HBL.out.trans (hb.mono HBL.out.size))
      have HSH := shl02_any (nd N) B1 c1 k hk w1 hv (by omega)
      rw [vN_nd] at HSH
      have HSH := Lib.hid HSH
      clear hv hb
      go_wp2_with fail
      refine HSH.out.mono ?_
      rintro e w2 ⟨⟨v, rfl, B2, c2, rfl, hv2⟩, hb2⟩
      have HB2 := Lib.hid (Below.chain HB1.out hb2)
      have HCM := cmp02_any (nd (N * 2 ^ k)) n B2 A c2 ca w2 hv2 (HA.out.below (Below.chain HB1.out hb2))
      rw [vN_nd, ← HCQ.out] at HCM
      have HCM := Lib.hid HCM
      have HR2 := Lib.hid (HR.out.below hb2)
      clear hv2 hb2
      go_wp2_with fail
      refine HCM.out.mono ?_
      rintro e w3 ⟨rfl, hb3⟩
      have HB3 := Lib.hid (Below.chain HB2.out hb3)
      have HR3 := Lib.hid (HR2.out.below hb3)
      clear hb3
      go_wp2
      go_ret2
      exact ⟨⟨_, rfl, _, _, rfl, HR3.out⟩, HB3.out⟩
end Go.Proofs.Ytigacobphgeeaaa
