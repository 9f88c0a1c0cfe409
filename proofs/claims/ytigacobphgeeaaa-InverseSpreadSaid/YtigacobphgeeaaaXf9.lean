/- Package inverse: the sums of columns, and the greatest. -/
import Derived.Test.YtigacobphgeeaaaXe9
set_option linter.unusedVariables false
namespace Lev
open Ieee
theorem pos_word {a : Nat} (h : a ≤ INF) : rg a = a ∧ sg a = false ∧ a < 18446744073709551616 := by
  have := INF_eq
  refine ⟨by unfold rg; omega, ?_, by omega⟩
  unfold sg
  first
  | (rw [decide_eq_false_iff_not]; omega)
  | (simp; omega)
theorem add_pos {a b : Nat} (ha : a ≤ INF) (hb : b < INF) : D.add a b = some (fadd a b) ∧ fadd a b ≤ INF := by
  obtain ⟨a1, a2, _⟩ := pos_word ha
  obtain ⟨b1, b2, _⟩ := pos_word (Nat.le_of_lt hb)
  have key : ∃ r, D.add a b = some r ∧ r ≤ INF := by
    by_cases h : a = INF
    · have h1 : D.read a = .infinity false := by rw [read_inf (by omega), a2]
      obtain ⟨m, p, h2, _⟩ := read_fin (b := b) (by unfold fin; omega)
      refine ⟨INF, ?_, Nat.le_refl _⟩
      unfold Format.add
      rw [h1, h2]
      rfl
    · have hfa : fin a := by unfold fin; omega
      have hfb : fin b := by unfold fin; omega
      obtain ⟨r, h1, h2⟩ := add_spec hfa hfb
      have h0a := fv_nonneg a2
      have h0b := fv_nonneg b2
      have hs : sumSg (sg a) (sg b) (fv a + fv b) = false := by
        unfold sumSg
        split
        · rw [a2]; rfl
        · rw [decide_eq_false_iff_not]; grind
      rw [hs] at h1
      refine ⟨_, h1, ?_⟩
      have := h2.le
      show D.word false r ≤ INF
      rw [word_false]; exact this
  obtain ⟨r, h1, h2⟩ := key
  have : fadd a b = r := by unfold fadd; rw [h1]; rfl
  rw [this]
  exact ⟨h1, h2⟩
/-- The sum of the sizes of the first m of a column. -/
def colL (g : Nat → Nat → Nat) (j : Nat) : Nat → Nat
  | 0 => 0
  | m + 1 => fadd (colL g j m) (rg (g m j))
def colS (g : Nat → Nat → Nat) (j : Nat) : Nat := colL g j (j + 1)
theorem colL_pos {g : Nat → Nat → Nat} {j : Nat} : ∀ m, (∀ i, i < m → rg (g i j) < INF) → colL g j m ≤ INF
  | 0, _ => Nat.zero_le _
  | m + 1, h => (add_pos (colL_pos m (fun i hi => h i (by omega))) (h m (by omega))).2
theorem colL_add {g : Nat → Nat → Nat} {j m : Nat} (h : ∀ i, i < m + 1 → rg (g i j) < INF) : D.add (colL g j m) (rg (g m j)) = some (colL g j (m + 1)) :=
  (add_pos (colL_pos m (fun i hi => h i (by omega))) (h m (by omega))).1
/-- The greatest of the first m. -/
def maxL (c : Nat → Nat) : Nat → Nat
  | 0 => 0
  | m + 1 => if flt (maxL c m) (c m) = true then c m else maxL c m
theorem maxL_pos {c : Nat → Nat} : ∀ m, (∀ i, i < m → c i ≤ INF) → maxL c m ≤ INF
  | 0, _ => Nat.zero_le _
  | m + 1, h => by
    show (if flt (maxL c m) (c m) = true then c m else maxL c m) ≤ INF
    split
    · exact h m (by omega)
    · exact maxL_pos m (fun i hi => h i (by omega))
def oneS (g : Nat → Nat → Nat) (n : Nat) : Nat := maxL (colS g) n
theorem maxL_one {c : Nat → Nat} (h : c 0 ≤ INF) : maxL c 1 = c 0 := by
  show (if flt 0 (c 0) = true then c 0 else 0) = c 0
  split
  · rfl
  · next h1 =>
    obtain ⟨a1, a2, _⟩ := pos_word h
    by_cases h0 : rg (c 0) = 0
    · omega
    · exfalso
      apply h1
      unfold flt
      rw [decide_eq_true_eq]
      have h5 : ord (c 0) = ((c 0 : Nat) : Int) := by have := ord_rg (c 0); rw [a1] at this; exact this
      have h6 : ord 0 = 0 := by decide
      refine ⟨by decide, by omega, ?_⟩
      rw [h5, h6]; omega
end Lev
namespace Go.Proofs.Ytigacobphgeeaaa
open Go.RowKit Go.Shelf Lev

theorem run_maxF {P : Program} (w : World) (ts : Array TypeId) (t : TypeId) {x y : Nat} (hx : x ≤ INF) (hy : y ≤ INF) : (Builtin.max_ ts t #[.float .f64 x, .float .f64 y]).run P w = .ok (.float .f64 (if flt x y = true then y else x)) w := by
  obtain ⟨x1, x2, x3⟩ := pos_word hx
  obtain ⟨y1, y2, y3⟩ := pos_word hy
  have hox : ord x = (x : Int) := by have := ord_rg x; rw [x1] at this; exact this
  have hoy : ord y = (y : Int) := by have := ord_rg y; rw [y1] at this; exact this
  have hf : flt x y = decide (x < y) := by
    unfold flt
    refine decide_eq_decide.2 ?_
    rw [hox, hoy]
    omega
  rw [hf]
  rcases order_cases x y with ⟨h, hn⟩ | ⟨_, ⟨h, ho⟩ | ⟨h, ho⟩ | ⟨h, ho⟩⟩
  · exact absurd ⟨by omega, by omega⟩ hn
  · have h2 : FloatKind.f64.format.order x y = some .lt := h
    rw [decide_eq_true (by omega)]
    simp [Builtin.max_, Builtin.max2, h2]
  · have h2 : FloatKind.f64.format.order x y = some .eq := h
    have hxy : x = y := by omega
    rw [decide_eq_false (by omega)]
    subst hxy
    simp [Builtin.max_, Builtin.max2, h2]
  · have h2 : FloatKind.f64.format.order x y = some .gt := h
    rw [decide_eq_false (by omega)]
    simp [Builtin.max_, Builtin.max2, h2]

attribute [local go_sem] order_lt order_gt order_eq order_ne

set_option maxRecDepth 100000 in
set_option maxHeartbeats 2000000 in
theorem column_any (g : Nat → Nat → Nat) (n j : Nat) (hj : j < n) (hn : n ≤ 6) (B : Nat) (b o k : Nat → Nat) (M : Nat → Nat → Nat) (c : Nat) (w : World) (hc : n ≤ c ∧ c ≤ 9223372036854775807) (hm : RMat w B n b o k M) (hg : ∀ i, i ≤ j → M i j = g i j) (hf : ∀ i, i ≤ j → rg (g i j) < INF) :
    Calls Try.prog 71 #[.slice (some ⟨B, 0, none⟩) n c, .int .i64 (j : Int)] w fun e w' => e = .returned (.float .f64 (colS g j)) ∧ w = w' := by
  have HM := Lib.hid hm; have HG := Lib.hid hg; have HF := Lib.hid hf
  obtain ⟨hc1, hc2⟩ := hc
  have hj1 : (j : Int) + 1 ≤ (c : Int) := by omega
  have hjn : (j : Int) < (n : Int) := by omega
  clear hm hg hf
  go_enter Try.func71, Try.ntmps71
  go_wp2_with fail
  go_loopw [5, 13] (fun sv iv wr => ∃ q : Nat, q ≤ j + 1 ∧ iv = .int .i64 (q : Int) ∧ sv = .float .f64 (colL g j q) ∧ wr = w) (fun _ iv _ => j + 1 - (intOf iv).toNat)
  case atStart => exact ⟨0, Nat.zero_le _, rfl, rfl, rfl⟩
  case round =>
    obtain ⟨q, hq, rfl, rfl, rfl⟩ := hrel
    by_cases hlt : (q : Int) < (j : Int) + 1
    · have hqn : q < n := by omega
      have a0 := HM.out.out q hqn
      have a1 := HM.out.row q j hqn hj
      have hqg := HG.out q (by omega)
      rw [hqg] at a1
      have hl := HM.out.l64 q j
      rw [hqg] at hl
      have hadd : floatBits .add .f64 (colL g j q) (rg (g q j)) = some (colL g j (q + 1)) := colL_add (fun i hi => HF.out i (by omega))
      have HAB := Lib.hid (fun W => abs_any (g q j) hl W)
      have hrun := fun w => run_float_arith (P := Try.prog) w .add 29 .f64 _ _ _ hadd
      generalize hs1 : colL g j (q + 1) = s1 at *
      generalize colL g j q = s0 at *
      generalize rg (g q j) = r at *
      have HS1 := Lib.hid hs1
      clear hqg hl hs1 hadd
      go_wp2_with (go_at_call 62; refine (HAB.out _).mono ?_; rintro e w' ⟨rfl, rfl⟩)
      go_roundw
      case rel => exact ⟨q + 1, by omega, by go_num, by rw [HS1.out], trivial⟩
      case measure => simp [intOf]; omega
    · obtain rfl : q = j + 1 := by omega
      go_wp2
      go_ret
      exact ⟨rfl, rfl⟩
end Go.Proofs.Ytigacobphgeeaaa
