/- The inverse of a triangle, in plain numbers; squares of floats in memory. -/
import Derived.Test.YtigacobphgeeaaaVg9
set_option linter.unusedVariables false
namespace Lev
/-- What is left of 0 behind m products, from column i + 1 on. -/
def leftL (g : Nat → Nat → Nat) (i : Nat) (col : Nat → Nat) : Nat → Nat
  | 0 => 0
  | m + 1 => arS .sub (leftL g i col m) (arS .mul (g i (i + 1 + m)) (col (i + 1 + m)))
/-- Column j of the inverse, from the diagonal d rows up. -/
def wcol (g : Nat → Nat → Nat) (j : Nat) : Nat → Nat → Nat
  | 0 => fun k => if k = j then arS .quo oneF (g j j) else 0
  | d + 1 => fun k => if k = j - (d + 1) then arS .quo (leftL g (j - (d + 1)) (wcol g j d) (d + 1)) (g (j - (d + 1)) (j - (d + 1))) else wcol g j d k
/-- The inverse's entry. -/
def wS (g : Nat → Nat → Nat) (i j : Nat) : Nat := wcol g j j i
theorem wcol_keep (g : Nat → Nat → Nat) (j : Nat) : ∀ e d k, d + e ≤ j → j - d ≤ k → wcol g j (d + e) k = wcol g j d k
  | 0, d, k, _, _ => rfl
  | e + 1, d, k, h, hk => by
    show (if k = j - (d + e + 1) then _ else wcol g j (d + e) k) = _
    rw [if_neg (by omega)]
    exact wcol_keep g j e d k (by omega) hk
theorem wS_at (g : Nat → Nat → Nat) {j d k : Nat} (hd : d ≤ j) (hk : j - d ≤ k) : wS g k j = wcol g j d k := by
  unfold wS
  have := wcol_keep g j (j - d) d k (by omega) hk
  rwa [show d + (j - d) = j from by omega] at this
theorem leftL_congr (g : Nat → Nat → Nat) (i : Nat) {c c' : Nat → Nat} : ∀ m, (∀ k, i < k → k ≤ i + m → c k = c' k) → leftL g i c m = leftL g i c' m
  | 0, _ => rfl
  | m + 1, h => by
    show arS .sub (leftL g i c m) (arS .mul _ (c (i + 1 + m))) = arS .sub (leftL g i c' m) (arS .mul _ (c' (i + 1 + m)))
    rw [leftL_congr g i m (fun k h1 h2 => h k h1 (by omega)), h (i + 1 + m) (by omega) (by omega)]
theorem wS_diag (g : Nat → Nat → Nat) (j : Nat) : wS g j j = arS .quo oneF (g j j) := by
  rw [wS_at g (j := j) (d := 0) (Nat.zero_le _) (by omega)]
  show (if j = j then _ else _) = _
  rw [if_pos rfl]
theorem wS_up (g : Nat → Nat → Nat) {i j : Nat} (h : i < j) : wS g i j = arS .quo (leftL g i (fun k => wS g k j) (j - i)) (g i i) := by
  obtain ⟨d, hd⟩ : ∃ d, j = i + (d + 1) := ⟨j - i - 1, by omega⟩
  rw [wS_at g (j := j) (d := d + 1) (by omega) (by omega)]
  show (if i = j - (d + 1) then _ else _) = _
  rw [if_pos (by omega), show j - (d + 1) = i from by omega, show j - i = d + 1 from by omega]
  congr 1
  exact leftL_congr g i _ (fun k h1 h2 => (wS_at g (by omega) (by omega)).symm)
theorem cn_leftL (g : Nat → Nat → Nat) (i : Nat) (c : Nat → Nat) : ∀ m, cn (leftL g i c m) = leftL g i c m
  | 0 => by show cn 0 = 0; decide +kernel
  | m + 1 => cnArS _ _ _
theorem cn_wS (g : Nat → Nat → Nat) {i j : Nat} (h : i ≤ j) : cn (wS g i j) = wS g i j := by
  rcases Nat.lt_or_ge i j with h1 | h1
  · rw [wS_up g h1]; exact cnArS _ _ _
  · obtain rfl : i = j := by omega
    rw [wS_diag]; exact cnArS _ _ _
theorem arS_lt (op : Go.BinOp) (a b : Nat) : arS op a b < 18446744073709551616 := by
  unfold arS
  cases h : Go.floatBits op .f64 a b with
  | some r =>
    show cn r < _
    unfold cn
    have := Go.floatBits_wf h
    have h2 : r < 18446744073709551616 := by simpa [Go.Lit.wf] using this
    split
    · decide
    · exact h2
  | none => decide
theorem wS_lt (g : Nat → Nat → Nat) (i j : Nat) : wS g i j < 18446744073709551616 := by
  unfold wS
  have : ∀ d k, wcol g j d k < 18446744073709551616 := fun d => by
    induction d with
    | zero =>
      intro k
      show (if k = j then arS .quo oneF (g j j) else 0) < _
      split
      · exact arS_lt _ _ _
      · decide
    | succ d ih =>
      intro k
      show (if k = j - (d + 1) then _ else wcol g j d k) < _
      split
      · exact arS_lt _ _ _
      · exact ih k
  exact this j i
def upd (M : Nat → Nat → Nat) (i j v : Nat) : Nat → Nat → Nat := fun a b => if a = i ∧ b = j then v else M a b
theorem upd_at (M : Nat → Nat → Nat) (i j v : Nat) : upd M i j v i j = v := if_pos ⟨rfl, rfl⟩
theorem upd_ne (M : Nat → Nat → Nat) {i j a b : Nat} (v : Nat) (h : a ≠ i ∨ b ≠ j) : upd M i j v a b = M a b := if_neg (by omega)
end Lev
namespace Go.Proofs.Ytigacobphgeeaaa
open Go.RowKit Go.Shelf Lev

/-- A square of floats, to read: the outer cells, the rows. -/
structure RMat (w : World) (B n : Nat) (b o k : Nat → Nat) (M : Nat → Nat → Nat) : Prop where
  out : ∀ i, i < n → w.cell? ⟨B, i, none⟩ = some (.slice (some ⟨b i, o i, none⟩) n (k i))
  row : ∀ i j, i < n → j < n → w.cell? ⟨b i, o i + j, none⟩ = some (.float .f64 (M i j))
  blt : B < w.heap.size
  rlt : ∀ i, i < n → b i < w.heap.size
  l64 : ∀ i j, M i j < 18446744073709551616
  cap : ∀ i, i < n → n ≤ k i ∧ k i ≤ 9223372036854775807
theorem RMat.below {w w' : World} {B n : Nat} {b o k : Nat → Nat} {M : Nat → Nat → Nat} (h : RMat w B n b o k M) (hb : Below w.heap.size w w') : RMat w' B n b o k M :=
  ⟨fun i hi => (hb.cell (p := ⟨B, i, none⟩) h.blt).trans (h.out i hi), fun i j hi hj => (hb.cell (p := ⟨b i, o i + j, none⟩) (h.rlt i hi)).trans (h.row i j hi hj), Nat.lt_of_lt_of_le h.blt hb.size, fun i hi => Nat.lt_of_lt_of_le (h.rlt i hi) hb.size, h.l64, h.cap⟩
theorem RMat.drewN {w : World} {B n : Nat} {b o k : Nat → Nat} {M : Nat → Nat → Nat} (h : RMat w B n b o k M) (m : Nat) : RMat (w.drewN m) B n b o k M := h.below ⟨rfl, rfl, rfl, Nat.le_refl _, fun _ _ => rfl⟩
theorem RMat.other {w : World} {B n : Nat} {b o k : Nat → Nat} {M : Nat → Nat → Nat} (h : RMat w B n b o k M) {p : Addr} (h1 : B ≠ p.block) (h2 : ∀ i, i < n → b i ≠ p.block) (v : Value) : RMat (w.setCell p v) B n b o k M :=
  ⟨fun i hi => by rw [World.cell?_setCell_other _ p ⟨B, i, none⟩ _ (fun e => h1 (by simpa using (congrArg Addr.block e).symm))]; exact h.out i hi,
   fun i j hi hj => by rw [World.cell?_setCell_other _ p ⟨b i, o i + j, none⟩ _ (fun e => h2 i hi (by simpa using (congrArg Addr.block e).symm))]; exact h.row i j hi hj,
   by simpa [World.setCell] using h.blt, fun i hi => by simpa [World.setCell] using h.rlt i hi, h.l64, h.cap⟩
/-- A square of floats, to write. -/
structure WMat (w : World) (B n : Nat) (b k : Nat → Nat) (M : Nat → Nat → Nat) : Prop where
  rm : RMat w B n b (fun _ => 0) k M
  bk : ∀ i, i < n → ∃ t cs, Bk w (b i) t cs
  inj : ∀ i i', i < n → i' < n → b i = b i' → i = i'
  ne : ∀ i, i < n → b i ≠ B
theorem WMat.below {w w' : World} {B n : Nat} {b k : Nat → Nat} {M : Nat → Nat → Nat} (h : WMat w B n b k M) (hb : Below w.heap.size w w') : WMat w' B n b k M :=
  ⟨h.rm.below hb, fun i hi => by obtain ⟨t, cs, h1⟩ := h.bk i hi; exact ⟨t, cs, h1.below hb h1.lt⟩, h.inj, h.ne⟩
theorem WMat.drewN {w : World} {B n : Nat} {b k : Nat → Nat} {M : Nat → Nat → Nat} (h : WMat w B n b k M) (m : Nat) : WMat (w.drewN m) B n b k M := h.below ⟨rfl, rfl, rfl, Nat.le_refl _, fun _ _ => rfl⟩
theorem WMat.frozen {w : World} {B n : Nat} {b k : Nat → Nat} {M : Nat → Nat → Nat} (h : WMat w B n b k M) {i : Nat} (hi : i < n) (j : Nat) : w.frozen? ⟨b i, j, none⟩ = false := by
  obtain ⟨t, cs, h1⟩ := h.bk i hi; exact h1.frozen j
theorem WMat.set {w : World} {B n : Nat} {b k : Nat → Nat} {M : Nat → Nat → Nat} (h : WMat w B n b k M) {i j v : Nat} (hi : i < n) (hj : j < n) (hv : v < 18446744073709551616) : WMat (w.setCell ⟨b i, j, none⟩ (.float .f64 v)) B n b k (upd M i j v) := by
  have hne : ∀ a, a < n → a ≠ i → b a ≠ b i := fun a ha h1 h2 => h1 (h.inj a i ha hi h2)
  refine ⟨⟨fun a ha => ?_, fun a c ha hc => ?_, by simpa [World.setCell] using h.rm.blt, fun a ha => by simpa [World.setCell] using h.rm.rlt a ha, fun a c => ?_, h.rm.cap⟩, fun a ha => ?_, h.inj, h.ne⟩
  · rw [World.cell?_setCell_other _ ⟨b i, j, none⟩ ⟨B, a, none⟩ _ (fun e => h.ne i hi (by simpa using congrArg Addr.block e))]; exact h.rm.out a ha
  · have h0 := h.rm.row a c ha hc
    rw [Nat.zero_add] at h0 ⊢
    obtain ⟨t, cs, h1⟩ := h.bk a ha
    by_cases e : a = i
    · subst e
      rw [(h1.set j (.float .f64 v)).cell c]
      rw [h1.cell c] at h0
      by_cases e2 : c = j
      · subst e2
        have hc2 : c < cs.size := by
          rcases Nat.lt_or_ge c cs.size with h3 | h3
          · exact h3
          · rw [Array.getElem?_eq_none h3] at h0; cases h0
        rw [Array.getElem?_setIfInBounds_self_of_lt hc2, upd_at]
      · rw [Array.getElem?_setIfInBounds_ne (by omega), upd_ne _ _ (.inr e2)]; exact h0
    · rw [World.cell?_setCell_other _ ⟨b i, j, none⟩ ⟨b a, c, none⟩ _ (fun e1 => hne a ha e (by simpa using (congrArg Addr.block e1).symm)), upd_ne _ _ (.inl e)]; exact h0
  · unfold upd; split
    · exact hv
    · exact h.rm.l64 a c
  · obtain ⟨t, cs, h1⟩ := h.bk a ha
    by_cases e : a = i
    · subst e; exact ⟨t, _, h1.set j _⟩
    · exact ⟨t, cs, h1.other (p := ⟨b i, j, none⟩) (hne a ha e) _⟩
end Go.Proofs.Ytigacobphgeeaaa
