/- Contracts: what is a number, of givens and of the document. -/
import Derived.Test.YtcoaachajdomcaaHc
import Derived.Test.YtcoaachajdomcaaT
import Derived.Laws.NewBlocks
import Derived.Laws.StructEq
namespace Go.Proofs.Ytcoaachajdomcaa
open Go.RowKit Go.Shelf Lev

def numB (x : Nat) : Bool := decide (fin x)
theorem numB_kind (x : Nat) : decide (kindS x ≤ 1) = numB x := by unfold numB; rw [decide_eq_decide]; exact kindS_le
theorem numB_kind' (x : Nat) : decide (1 < kindS x) = !numB x := by
  rw [← numB_kind, ← decide_not, decide_eq_decide]; omega

set_option maxHeartbeats 400000 in
theorem rnumber_any (x : Nat) (hx : x < 18446744073709551616) (w : World) :
    Calls Try.prog 50 #[.float .f64 x] w fun e w' => e = .returned (.bool (numB x)) ∧ w = w' := by
  have H := Lib.hid (rsplit_any x hx w)
  have HK := Lib.hid (numB_kind x)
  unfold splitV at H
  clear hx
  go_enter Try.func50, Try.ntmps50
  go_wp2_with (go_at_call 43; refine H.out.mono ?_; rintro e w' ⟨rfl, rfl⟩)
  go_ret
  exact ⟨ret_bool HK.out, rfl⟩

theorem idx0 (a b : Value) (w : World) : (Instr.index 35 (.agg #[a, b]) (.int .i64 0)).run Try.prog w = .ok a w := by kernel_rfl
theorem idx1 (a b : Value) (w : World) : (Instr.index 35 (.agg #[a, b]) (.int .i64 1)).run Try.prog w = .ok b w := by kernel_rfl

def MayEnd (b : Bool) (w : World) (e : Ending) (w' : World) : Prop := e = .returned (.bool b) ∧ Below w.heap.size w w'
def MayAt (x y : Nat) (i : Value) : Prop := i = .int .i64 0 ∨ (i = .int .i64 1 ∧ numB x = true) ∨ (i = .int .i64 2 ∧ numB x = true ∧ numB y = true)

set_option maxRecDepth 100000 in
set_option maxHeartbeats 1000000 in
theorem gmay_any (x y : Nat) (hx : x < 18446744073709551616) (hy : y < 18446744073709551616) (w : World) :
    Calls Try.prog 46 #[.agg #[.float .f64 x, .float .f64 y]] w (MayEnd (numB x && numB y) w) := by
  have HX := Lib.hid (fun W => split_any x hx W)
  have HY := Lib.hid (fun W => split_any y hy W)
  have KX := Lib.hid (numB_kind' x)
  have KY := Lib.hid (numB_kind' y)
  unfold splitV at HX HY
  have i0 := idx0 (.float .f64 x) (.float .f64 y)
  have i1 := idx1 (.float .f64 x) (.float .f64 y)
  clear hx hy
  go_enter Try.func46, Try.ntmps46
  go_wp2_with fail
  go_loop [14] (fun i => MayAt x y i) (fun i => 2 - (intOf i).toNat)
  case atStart => exact .inl rfl
  case round =>
    have HB := Lib.hid (show Below w.heap.size w (w.alloc (.cells #[.float .f64 x, .float .f64 y] 56)) from (Below.refl _ _).alloc (Nat.le_refl _) _)
    rcases hrel with rfl | ⟨rfl, hx⟩ | ⟨rfl, hx, hy⟩
    · cases hb : numB x
      · have k := KX.out
        rw [hb] at k
        have k2 := Lib.hid hb
        clear hb
        go_wp2_with (go_at_call 52; refine (HX.out _).mono ?_; rintro e w' ⟨rfl, rfl⟩)
        go_ret
        exact ⟨ret_bool rfl, HB.out⟩
      · have k := KX.out
        rw [hb] at k
        have k2 := Lib.hid hb
        clear hb
        go_wp2_with (go_at_call 52; refine (HX.out _).mono ?_; rintro e w' ⟨rfl, rfl⟩)
        go_round
        case rel => exact .inr (.inl ⟨by go_num, k2.out⟩)
        case measure => simp [intOf]
    · have hx1 := Lib.hid hx
      clear hx
      cases hb : numB y
      · have k := KY.out
        rw [hb] at k
        have k2 := Lib.hid hb
        clear hb
        go_wp2_with (go_at_call 52; refine (HY.out _).mono ?_; rintro e w' ⟨rfl, rfl⟩)
        go_ret
        exact ⟨ret_bool (Bool.and_false _).symm, HB.out⟩
      · have k := KY.out
        rw [hb] at k
        have k2 := Lib.hid hb
        clear hb
        go_wp2_with (go_at_call 52; refine (HY.out _).mono ?_; rintro e w' ⟨rfl, rfl⟩)
        go_round
        case rel => exact .inr (.inr ⟨by go_num, hx1.out, k2.out⟩)
        case measure => simp [intOf]
    · have hx1 := Lib.hid hx
      have hy1 := Lib.hid hy
      clear hx hy
      go_wp2
      go_ret
      exact ⟨ret_bool (by rw [hx1.out, hy1.out]; rfl), HB.out⟩

theorem eqFloat (x y : Nat) (w : World) : (Op.equalIn 9999 22 (.float .f64 x) (.float .f64 y)).run Try.prog w = .ok (feq x y) w := by
  rw [show (9999 : Nat) = 9998 + 1 from rfl, Op.equalIn]
  simp only [Sem.run_bind, run_underlying Try.underlying22, Result.andThen_ok]
  rw [← order_eq]
  rfl
/-- The zero pair is equal to a pair of zeros. -/
theorem eqPair (x y : Nat) (w : World) : (Op.equalIn 10000 56 (.agg #[.float .f64 x, .float .f64 y]) (.agg #[.float .f64 0, .float .f64 0])).run Try.prog w = .ok (feq x 0 && feq y 0) w := by
  have hS : Try.prog.underlying 56 = some (.struct (Try.prog.fieldsOf 56)) := by kernel_rfl
  have hp : Try.prog.stoodInHeld 56 = false := by kernel_rfl
  rw [show (10000 : Nat) = 9999 + 1 from rfl, run_equalIn_agg w 9999 56 _ _ hS hp]
  simp only [Program.fieldsOf, Try.underlying56]
  go_simp
  rw [eqFloat]
  show (if feq x 0 = false then Result.ok false w else _) = _
  cases feq x 0
  · rfl
  · rw [if_neg (by decide), eqFloat]
    show (if feq y 0 = false then Result.ok false w else Result.ok true w) = _
    cases feq y 0 <;> rfl

end Go.Proofs.Ytcoaachajdomcaa
