/- Contracts of law 18's own: exact; the document's At. -/
import Derived.Test.YtigacobphgeeaaaXo9
import Derived.Test.YtigacobphgeeaaaZ9
set_option linter.unusedVariables false
namespace Lev
theorem rowsL_length (g : Nat → Nat → Nat) (n : Nat) : ∀ m, m ≤ n → (rowsL g n m).length = st n m
  | 0, _ => rfl
  | m + 1, h => by
    show (rowsL g n m ++ _).length = st n m + (n - m)
    rw [List.length_append, List.length_drop, rowL_len, rowsL_length g n m (by omega)]
theorem rowsL_at (g : Nat → Nat → Nat) {n i j : Nat} (hij : i ≤ j) (hj : j < n) : ∀ m, m ≤ n → i < m → (rowsL g n m)[st n i + (j - i)]?.getD 0 = g i j
  | 0, _, h => absurd h (Nat.not_lt_zero _)
  | m + 1, h, hi => by
    show (rowsL g n m ++ (rowL g m n).drop m)[st n i + (j - i)]?.getD 0 = _
    have hl := rowsL_length g n m (by omega)
    by_cases e : i = m
    · subst e
      rw [List.getElem?_append_right (by omega), hl, List.getElem?_drop, show i + (st n i + (j - i) - st n i) = j from by omega, rowL_get g hj]
    · have h1 : st n (i + 1) ≤ st n m := st_le (by omega)
      have h2 : st n (i + 1) = st n i + (n - i) := rfl
      rw [List.getElem?_append_left (by omega)]
      exact rowsL_at g hij hj m (by omega) (by omega)
end Lev
namespace Go.Proofs.Ytigacobphgeeaaa
open Go.RowKit Go.Shelf Lev

set_option maxRecDepth 100000 in
set_option maxHeartbeats 1000000 in
theorem exact18_any (b : Nat) (hb : b < 18446744073709551616) (hf : fin b) (w : World) :
    Calls Try.prog 22 #[.float .f64 b] w fun e w' => (∃ v', e = .returned v' ∧ DyV w' v' (fv b)) ∧ Below w.heap.size w w' := by
  have k0 := (KeepD.start w).pushz
  have K0 := Lib.hid k0
  have HFR := Lib.hid (fun W => from03_any b hb hf W)
  obtain ⟨W0, hW0⟩ : ∃ W0, W0 = w.alloc (.cells #[.bool false, .slice none 0 0, .int .i64 0] 38) := ⟨_, rfl⟩
  rw [← hW0] at K0
  clear k0
  go_enter Try.func22, Try.ntmps22
  go_wp2_with fail
  rw [← hW0]
  refine (HFR.out _).mono ?_
  rintro e w1 ⟨⟨v, rfl, hv⟩, hb1⟩
  obtain ⟨d1, A1, c1, rfl, ha1, hv1⟩ := hv.a
  have HV1 := Lib.hid hv1
  have k3 := (K0.out.call hb1).push ha1
  unfold dyV
  clear hv ha1 hb1 hv1
  obtain ⟨a0, a1, a2⟩ := (k3.box (.head _)).c3
  obtain ⟨z0, z1, z2⟩ := (k3.box (.tail _ (.head _))).c3
  obtain ⟨f0, f1, f2⟩ := (k3.box (.tail _ (.head _))).f3
  have KZ := Lib.hid (k3.store (.tail _ (.head _)) (L' := []) (fun y hy => absurd hy List.not_mem_nil) (k3.val (.head _)))
  clear k3 hW0
  go_wp2
  refine ret_dy1 (v0 := .bool d1.neg) (v1 := .slice A1 (nd d1.n).length c1) (v2 := .int .i64 d1.e) (g := w.heap.size) rfl rfl (KZ.out.box (.head _)) rfl ?_
  exact ⟨⟨_, rfl, by rw [← HV1.out]; exact (KZ.out.val (.head _)).v⟩, KZ.out.below⟩

set_option maxRecDepth 100000 in
set_option maxHeartbeats 1000000 in
theorem at18_any (n i j : Nat) (hn : n ≤ 6) (hij : i ≤ j) (hj : j < n) (w : World) :
    Calls Try.prog 24 #[.int .i64 (n : Int), .int .i64 (i : Int), .int .i64 (j : Int)] w fun e w' => e = .returned (.int .i64 ((st n i + (j - i) : Nat) : Int)) ∧ w = w' := by
  have HST := Lib.hid (fun m (h : m ≤ i) => show st n m ≤ 36 from by
    have h1 := st_le (N := n) (k := m) (m := n) (by omega)
    have h2 := st_all n
    have h3 := Nat.mul_le_mul (show n ≤ 6 by omega) (show n ≤ 6 by omega)
    omega)
  go_enter Try.func24, Try.ntmps24
  go_wp2_with fail
  go_loopw [7, 8] (fun kv iv wr => ∃ q : Nat, q ≤ i ∧ iv = .int .i64 (q : Int) ∧ kv = .int .i64 ((st n q : Nat) : Int) ∧ wr = w) (fun _ iv _ => i - (intOf iv).toNat)
  case atStart => exact ⟨0, Nat.zero_le _, rfl, rfl, rfl⟩
  case round =>
    obtain ⟨q, hq, rfl, rfl, rfl⟩ := hrel
    have h1 := HST.out q hq
    by_cases hlt : (q : Int) < (i : Int)
    · have h2 : st n (q + 1) = st n q + (n - q) := rfl
      have HS2 := Lib.hid h2
      clear h2
      go_wp2
      go_roundw
      case rel => exact ⟨q + 1, by omega, by go_num, by rw [HS2.out]; go_num, trivial⟩
      case measure => simp [intOf]; omega
    · obtain rfl : q = i := by omega
      go_wp2
      go_ret
      exact ⟨congrArg (fun z : Int => Ending.returned (Value.int .i64 z)) (by omega), rfl⟩
end Go.Proofs.Ytigacobphgeeaaa
