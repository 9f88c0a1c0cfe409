/- Plain: floats and factors as bytes, and back. -/
import Derived.Test.YtghoephmihogeaaT
namespace Lev

/-- A number of digits of base 256, the highest first. -/
def bN (f : Nat → Nat) : Nat → Nat
  | 0 => 0
  | k + 1 => bN f k * 256 + f k
theorem bN_lt {f : Nat → Nat} (h : ∀ i, f i < 256) : ∀ k, bN f k < 256 ^ k
  | 0 => by show 0 < 256 ^ 0; decide
  | k + 1 => by
    have h1 := bN_lt h k
    have h2 := h k
    rw [Nat.pow_succ]
    show bN f k * 256 + f k < _
    omega
theorem bN_congr {f g : Nat → Nat} : ∀ {k : Nat}, (∀ i, i < k → f i = g i) → bN f k = bN g k
  | 0, _ => rfl
  | k + 1, h => by
    show bN f k * 256 + f k = bN g k * 256 + g k
    rw [bN_congr (fun i hi => h i (by omega)), h k (by omega)]
theorem bN_div {f : Nat → Nat} (h : ∀ i, f i < 256) (k : Nat) : ∀ j, bN f (k + j) / 256 ^ j = bN f k
  | 0 => by rw [Nat.pow_zero, Nat.div_one, Nat.add_zero]
  | j + 1 => by
    have h1 := bN_div h k j
    have h2 := h (k + j)
    have e : bN f (k + (j + 1)) = bN f (k + j) * 256 + f (k + j) := rfl
    rw [Nat.pow_succ, Nat.mul_comm, ← Nat.div_div_eq_div_mul, e, show (bN f (k + j) * 256 + f (k + j)) / 256 = bN f (k + j) from by omega, h1]
/-- A word's byte, the highest first. -/
def wB (b i : Nat) : Nat := b / 256 ^ (7 - i) % 256
theorem wB_lt (b i : Nat) : wB b i < 256 := Nat.mod_lt _ (by decide)
theorem bN_wB {b : Nat} (hb : b < 18446744073709551616) : ∀ k, k ≤ 8 → bN (wB b) k = b / 256 ^ (8 - k) := by
  intro k
  induction k with
  | zero => intro _; show 0 = b / 256 ^ 8; rw [Nat.div_eq_of_lt hb]
  | succ k ih =>
    intro hk
    have h1 := ih (by omega)
    show bN (wB b) k * 256 + wB b k = _
    rw [h1]
    unfold wB
    have e : 256 ^ (8 - k) = 256 ^ (7 - k) * 256 := by rw [← Nat.pow_succ]; congr 1; omega
    rw [e, ← Nat.div_div_eq_div_mul, show 8 - (k + 1) = 7 - k from by omega]
    omega
theorem bN_wB8 {b : Nat} (hb : b < 18446744073709551616) : bN (wB b) 8 = b := by
  rw [bN_wB hb 8 (Nat.le_refl _)]; exact Nat.div_one b
theorem wB_bN {f : Nat → Nat} (h : ∀ i, f i < 256) {i : Nat} (hi : i < 8) : wB (bN f 8) i = f i := by
  have h1 := bN_div h (i + 1) (7 - i)
  rw [show i + 1 + (7 - i) = 8 from by omega] at h1
  unfold wB
  rw [h1]
  have h2 := h i
  show (bN f i * 256 + f i) % 256 = f i
  omega

def put8 (b : Nat) : List UInt8 := (List.range 8).map (fun i => UInt8.ofNat (wB b i))
theorem put8_len (b : Nat) : (put8 b).length = 8 := by unfold put8; rw [List.length_map, List.length_range]
/-- The bytes of a float that is a number; of any other, none. -/
def putL (b : Nat) : List UInt8 := if fin b then put8 b else []
/-- A byte of a list; 0 behind all. -/
def lg (l : List UInt8) (i : Nat) : Nat := (l[i]?.getD 0).toNat
theorem lg_lt (l : List UInt8) (i : Nat) : lg l i < 256 := UInt8.toNat_lt _
theorem put8_get {b i : Nat} (hi : i < 8) : lg (put8 b) i = wB b i := by
  unfold lg put8
  rw [List.getElem?_map, List.getElem?_range hi]
  show (UInt8.ofNat (wB b i)).toNat = _
  rw [UInt8.toNat_ofNat']
  exact Nat.mod_eq_of_lt (wB_lt b i)
def getN (l : List UInt8) (a : Nat) : Nat := bN (fun i => lg l (a + i)) 8
theorem getN_lt (l : List UInt8) (a : Nat) : getN l a < 18446744073709551616 := bN_lt (fun i => lg_lt l (a + i)) 8
def getB (l : List UInt8) (at0 : Int) : Bool := decide (0 ≤ at0 ∧ at0 + 8 ≤ l.length ∧ fin (getN l at0.toNat))
def getF (l : List UInt8) (at0 : Int) : Nat := if getB l at0 = true then getN l at0.toNat else 0
theorem getF_lt (l : List UInt8) (a : Int) : getF l a < 18446744073709551616 := by
  unfold getF; split
  · exact getN_lt _ _
  · decide

def u8 (n : Int) : UInt8 := UInt8.ofNat n.toNat
theorem u8_nat {n : Int} (h0 : 0 ≤ n) (h : n < 256) : ((u8 n).toNat : Int) = n := by
  unfold u8; rw [UInt8.toNat_ofNat']; omega
def encX (xs : List Nat) : List UInt8 := xs.flatMap put8
def encH (f : Fct) : List UInt8 := [81, u8 f.C, u8 (f.R / 256), u8 (f.R % 256), u8 (f.T / 256), u8 (f.T % 256)]
def encL (f : Fct) : List UInt8 := if f.ok = true then encH f ++ encX f.xs else []

def decH (l : List UInt8) : Bool := decide (6 ≤ l.length ∧ lg l 0 = 81 ∧ sizeI (lg l 1) ≠ 0)
def decN (l : List UInt8) : Nat := (sizeI (lg l 1)).toNat
def decX (l : List UInt8) (n : Nat) : List Nat := (List.range n).map (fun k => getN l (6 + 8 * k))
def decA (l : List UInt8) (n : Nat) : Bool := (List.range n).all (fun k => getB l (6 + 8 * (k : Int)))
def decR (l : List UInt8) : Int := 256 * (lg l 2 : Int) + lg l 3
def decT (l : List UInt8) : Int := 256 * (lg l 4 : Int) + lg l 5
def decE (l : List UInt8) : Int :=
  if decH l = false then 9 else if (l.length : Int) ≠ 6 + 8 * sizeI (lg l 1) then 3 else if decA l (decN l) = false then 2 else if checkS (lg l 1) (decX l (decN l)) (decR l) (decT l) = false then 2 else 0
def decF (l : List UInt8) : Fct := if decE l = 0 then ⟨lg l 1, decX l (decN l), decR l, decT l⟩ else Fct.zero

theorem encX_len : ∀ xs : List Nat, (encX xs).length = 8 * xs.length
  | [] => rfl
  | x :: xs => by
    have := encX_len xs
    show (put8 x ++ encX xs).length = _
    rw [List.length_append, put8_len, this, List.length_cons]; omega
theorem encX_get : ∀ {xs : List Nat} {k i : Nat}, k < xs.length → i < 8 → lg (encX xs) (8 * k + i) = wB (xs[k]?.getD 0) i
  | x :: xs, 0, i, _, hi => by
    have : encX (x :: xs) = put8 x ++ encX xs := rfl
    rw [this]
    show ((put8 x ++ encX xs)[8 * 0 + i]?.getD 0).toNat = _
    rw [List.getElem?_append_left (by rw [put8_len]; omega), show 8 * 0 + i = i from by omega]
    exact put8_get hi
  | x :: xs, k + 1, i, hk, hi => by
    have : encX (x :: xs) = put8 x ++ encX xs := rfl
    rw [this]
    show ((put8 x ++ encX xs)[8 * (k + 1) + i]?.getD 0).toNat = _
    rw [List.getElem?_append_right (by rw [put8_len]; omega), put8_len, show 8 * (k + 1) + i - 8 = 8 * k + i from by omega]
    rw [List.length_cons] at hk
    have h1 := encX_get (xs := xs) (k := k) (i := i) (by omega) hi
    rw [List.getElem?_cons_succ]
    exact h1
theorem encL_eq {f : Fct} (h : f.ok = true) : encL f = encH f ++ encX f.xs := by unfold encL; rw [if_pos h]
theorem encH_len (f : Fct) : (encH f).length = 6 := rfl
theorem encL_len {f : Fct} (h : f.ok = true) : (encL f).length = 6 + 8 * f.xs.length := by
  rw [encL_eq h, List.length_append, encH_len, encX_len]
theorem encL_head {f : Fct} (h : f.ok = true) (m : List UInt8) {i : Nat} (hi : i < 6) : lg (encL f ++ m) i = lg (encH f) i := by
  unfold lg
  rw [encL_eq h, List.append_assoc, List.getElem?_append_left (by rw [encH_len]; omega)]
theorem encL_body {f : Fct} (h : f.ok = true) {k i : Nat} (hk : k < f.xs.length) (hi : i < 8) : lg (encL f) (6 + 8 * k + i) = wB (f.xs[k]?.getD 0) i := by
  rw [← encX_get hk hi]
  unfold lg
  rw [encL_eq h, List.getElem?_append_right (by rw [encH_len]; omega), encH_len, show 6 + 8 * k + i - 6 = 8 * k + i from by omega]
theorem head_vals {f : Fct} (h : f.ok = true) : lg (encH f) 0 = 81 ∧ (lg (encH f) 1 : Int) = f.C ∧ (lg (encH f) 2 : Int) = f.R / 256 ∧ (lg (encH f) 3 : Int) = f.R % 256 ∧ (lg (encH f) 4 : Int) = f.T / 256 ∧ (lg (encH f) 5 : Int) = f.T % 256 := by
  obtain ⟨c1, c2, c3, c4, c5, c6, c7, c8, c9⟩ := ok_len h
  exact ⟨rfl, u8_nat (by omega) (by omega), u8_nat (by omega) (by omega), u8_nat (by omega) (by omega), u8_nat (by omega) (by omega), u8_nat (by omega) (by omega)⟩
theorem ok_size {f : Fct} (h : f.ok = true) : sizeI f.C = (f.xs.length : Int) := by
  unfold Fct.ok checkS headOk at h
  rw [Bool.and_eq_true, decide_eq_true_eq] at h
  exact h.1.2.2.1.symm
theorem size_pos {C : Int} (h1 : 1 ≤ C) (h2 : C ≤ 6) : 3 ≤ sizeI C ∧ sizeI C ≤ 28 := by
  unfold sizeI
  rw [if_neg (by omega)]
  rcases (by omega : C = 1 ∨ C = 2 ∨ C = 3 ∨ C = 4 ∨ C = 5 ∨ C = 6) with h | h | h | h | h | h <;> subst h <;> decide
theorem size_zero {C : Int} : sizeI C = 0 ↔ C < 1 ∨ 6 < C := by
  constructor
  · intro h
    rcases Int.lt_or_le C 1 with h1 | h1
    · exact .inl h1
    · rcases Int.lt_or_le 6 C with h2 | h2
      · exact .inr h2
      · have := (size_pos h1 h2).1; omega
  · intro h; unfold sizeI; rw [if_pos h]

theorem enc_head {f : Fct} (h : f.ok = true) (m : List UInt8) : decH (encL f ++ m) = true ∧ (lg (encL f ++ m) 1 : Int) = f.C := by
  obtain ⟨c1, c2, c3, c4, c5, c6, c7, c8, c9⟩ := ok_len h
  obtain ⟨h0, h1, h2, h3, h4, h5⟩ := head_vals h
  have e1 : (lg (encL f ++ m) 1 : Int) = f.C := by rw [encL_head h m (by decide)]; exact h1
  refine ⟨decide_eq_true ⟨?_, ?_, ?_⟩, e1⟩
  · rw [List.length_append, encL_len h]; omega
  · rw [encL_head h m (by decide)]; exact h0
  · rw [e1]; have := (size_pos c1 c2).1; omega
/-- What is encoded and decoded is as it was. -/
theorem dec_enc {f : Fct} (h : f.ok = true) (hx : ∀ x ∈ f.xs, x < 18446744073709551616) : decE (encL f) = 0 ∧ decF (encL f) = f := by
  obtain ⟨c1, c2, c3, c4, c5, c6, c7, c8, c9⟩ := ok_len h
  obtain ⟨h0, h1, h2, h3, h4, h5⟩ := head_vals h
  obtain ⟨g0, g1⟩ := enc_head h []
  rw [List.append_nil] at g0 g1
  have hh : ∀ i, i < 6 → lg (encL f) i = lg (encH f) i := fun i hi => by have := encL_head h [] hi; rwa [List.append_nil] at this
  have hs := ok_size h
  have hN : decN (encL f) = f.xs.length := by unfold decN; rw [g1, hs]; omega
  have hget : ∀ k, k < f.xs.length → getN (encL f) (6 + 8 * k) = f.xs[k]?.getD 0 := fun k hk => by
    unfold getN
    rw [bN_congr (g := wB (f.xs[k]?.getD 0)) (fun i hi => encL_body h hk hi)]
    refine bN_wB8 (hx _ ?_)
    rw [List.getElem?_eq_getElem hk]; exact List.getElem_mem hk
  have hX : decX (encL f) (decN (encL f)) = f.xs := by
    rw [hN]
    unfold decX
    refine list_ext (by rw [List.length_map, List.length_range]) (fun p hp => ?_)
    rw [List.length_map, List.length_range] at hp
    rw [map_get hp, hget p hp]
  have hR : decR (encL f) = f.R := by unfold decR; rw [hh 2 (by decide), hh 3 (by decide), h2, h3]; omega
  have hT : decT (encL f) = f.T := by unfold decT; rw [hh 4 (by decide), hh 5 (by decide), h4, h5]; omega
  have hA : decA (encL f) (decN (encL f)) = true := by
    rw [hN]
    unfold decA
    rw [List.all_eq_true]
    intro k hk
    rw [List.mem_range] at hk
    refine decide_eq_true ⟨by omega, by rw [encL_len h]; omega, ?_⟩
    rw [show (6 + 8 * (k : Int)).toNat = 6 + 8 * k from by omega, hget k hk]
    exact small_fin (check_small h hk)
  have hE : decE (encL f) = 0 := by
    unfold decE
    rw [if_neg (by rw [g0]; decide), if_neg (by rw [encL_len h, g1, hs]; omega), if_neg (by rw [hA]; decide), if_neg]
    rw [hX, g1, hR, hT]
    have : checkS f.C f.xs f.R f.T = true := h
    rw [this]; decide
  refine ⟨hE, ?_⟩
  unfold decF
  rw [if_pos hE, g1, hX, hR, hT]
theorem decE_0 {l : List UInt8} (h : decE l = 0) : decH l = true ∧ (l.length : Int) = 6 + 8 * sizeI (lg l 1) ∧ decA l (decN l) = true ∧ checkS (lg l 1) (decX l (decN l)) (decR l) (decT l) = true := by
  unfold decE at h
  split at h
  · exact absurd h (by decide)
  · split at h
    · exact absurd h (by decide)
    · split at h
      · exact absurd h (by decide)
      · split at h
        · exact absurd h (by decide)
        · rename_i h1 h2 h3 h4
          exact ⟨by simpa using h1, by omega, by simpa using h3, by simpa using h4⟩
theorem lg_ext {a b : List UInt8} (h : a.length = b.length) (h2 : ∀ p, p < a.length → lg a p = lg b p) : a = b := by
  refine List.ext_getElem h (fun p h3 h4 => ?_)
  have := h2 p h3
  unfold lg at this
  rw [List.getElem?_eq_getElem h3, List.getElem?_eq_getElem h4] at this
  exact UInt8.toNat_inj.1 this
/-- What can be decoded may be, and is encoded to the same bytes. -/
theorem enc_dec {l : List UInt8} (h : decE l = 0) : (decF l).ok = true ∧ encL (decF l) = l := by
  obtain ⟨h1, h2, h3, h4⟩ := decE_0 h
  have hF : decF l = ⟨lg l 1, decX l (decN l), decR l, decT l⟩ := by unfold decF; rw [if_pos h]
  have hok : (decF l).ok = true := by rw [hF]; exact h4
  unfold decH at h1
  rw [decide_eq_true_eq] at h1
  obtain ⟨g1, g2, g3⟩ := h1
  have hxl : (decF l).xs.length = decN l := by rw [hF]; show (decX l (decN l)).length = _; unfold decX; rw [List.length_map, List.length_range]
  have hs := ok_size hok
  rw [show (decF l).C = (lg l 1 : Int) from by rw [hF], hxl] at hs
  have hlen : (encL (decF l)).length = l.length := by rw [encL_len hok, hxl]; omega
  refine ⟨hok, lg_ext hlen (fun p hp => ?_)⟩
  obtain ⟨v0, v1, v2, v3, v4, v5⟩ := head_vals hok
  have hh : ∀ i, i < 6 → lg (encL (decF l)) i = lg (encH (decF l)) i := fun i hi => by have := encL_head hok [] hi; rwa [List.append_nil] at this
  have l2 := lg_lt l 2; have l3 := lg_lt l 3; have l4 := lg_lt l 4; have l5 := lg_lt l 5
  have hR : (decF l).R = 256 * (lg l 2 : Int) + lg l 3 := by rw [hF]; rfl
  have hT : (decF l).T = 256 * (lg l 4 : Int) + lg l 5 := by rw [hF]; rfl
  have hC : (decF l).C = (lg l 1 : Int) := by rw [hF]
  by_cases hp6 : p < 6
  · rw [hh p hp6]
    rcases (by omega : p = 0 ∨ p = 1 ∨ p = 2 ∨ p = 3 ∨ p = 4 ∨ p = 5) with e | e | e | e | e | e <;> subst e <;> omega
  · rw [encL_len hok, hxl] at hp
    obtain ⟨k, i, hpk, hi⟩ : ∃ k i, p = 6 + 8 * k + i ∧ i < 8 := ⟨(p - 6) / 8, (p - 6) % 8, by omega, by omega⟩
    subst hpk
    have hk : k < (decF l).xs.length := by omega
    rw [encL_body hok hk hi]
    have e : (decF l).xs[k]?.getD 0 = getN l (6 + 8 * k) := by
      rw [hF]
      show (decX l (decN l))[k]?.getD 0 = _
      unfold decX
      exact map_get (by omega) _
    rw [e]
    exact wB_bN (fun j => lg_lt l _) hi
/-- Bytes cut short can't be decoded. -/
theorem dec_cut {f : Fct} (h : f.ok = true) {cut : Nat} (hc : cut < (encL f).length) : decE ((encL f).take cut) = if cut < 6 then 9 else 3 := by
  have hl : ((encL f).take cut).length = cut := by rw [List.length_take]; omega
  unfold decE
  by_cases h6 : cut < 6
  · rw [if_pos h6, if_pos]
    exact decide_eq_false (fun g => by omega)
  · rw [if_neg h6]
    have e : ∀ i, i < 6 → lg ((encL f).take cut) i = lg (encL f) i := fun i hi => by
      unfold lg; rw [List.getElem?_take_of_lt (by omega)]
    obtain ⟨g0, g1⟩ := enc_head h []
    rw [List.append_nil] at g0 g1
    unfold decH at g0 ⊢
    rw [decide_eq_true_eq] at g0
    rw [e 0 (by decide), e 1 (by decide), hl, decide_eq_true ⟨by omega, g0.2.1, g0.2.2⟩, if_neg (by decide), if_pos]
    rw [g1, ok_size h]
    rw [encL_len h] at hc
    omega
theorem dec_more {f : Fct} (h : f.ok = true) (hx : ∀ x ∈ f.xs, x < 18446744073709551616) (m : List UInt8) : decE (encL f ++ m) = if m = [] then 0 else 3 := by
  by_cases hm : m = []
  · subst hm
    rw [List.append_nil, if_pos rfl]; exact (dec_enc h hx).1
  · rw [if_neg hm]
    obtain ⟨g0, g1⟩ := enc_head h m
    unfold decE
    rw [if_neg (by rw [g0]; decide), if_pos]
    rw [g1, ok_size h, List.length_append, encL_len h]
    have : 0 < m.length := List.length_pos_iff.2 hm
    omega
theorem decE_vals (l : List UInt8) : decE l = 0 ∨ decE l = 9 ∨ decE l = 3 ∨ decE l = 2 := by
  unfold decE
  repeat' split
  all_goals simp

end Lev
