/- Contracts: what a builder holds, as a string; whether a float is a number. -/
import Derived.Test.YtghoephmihogeaaSa
import Derived.Test.YtghoephmihogeaaBe
import Derived.Test.YtghoephmihogeaaBg
import Derived.Test.YtghoephmihogeaaUa
set_option linter.unusedVariables false
namespace Go.Proofs.Ytghoephmihogeaa
open Go.RowKit Go.Shelf Lev

def strLays_ren : Go.Shelf.Ren := ⟨fun | 169 => 32 | n => n, fun | 70 => 55 | 9 => 9 | 0 => 0 | 72 => 57 | 37 => 50 | 127 => 71 | 3 => 3 | 5 => 5 | n => n, fun | n => n⟩
theorem strLays : Lays.n169 Try.prog strLays_ren := {
  mixed := by kernel_rfl
  f169 := Try.func32.trans (congrArg some (by kernel_rfl))
  t0 := Try.underlying0
  a0 := Try.isAgg0
  z0 := Try.sizeOf0
  v0 := Try.zeroValue0
  t3 := Try.underlying3
  a3 := Try.isAgg3
  z3 := Try.sizeOf3
  v3 := Try.zeroValue3
  t9 := Try.underlying9
  a9 := Try.isAgg9
  z9 := Try.sizeOf9
  v9 := Try.zeroValue9
  t37 := Try.underlying50
  a37 := Try.isAgg50
  z37 := Try.sizeOf50
  v37 := Try.zeroValue50
  t70 := Try.underlying55
  a70 := Try.isAgg55
  z70 := Try.sizeOf55
  v70 := Try.zeroValue55
  t72 := Try.underlying57
  a72 := Try.isAgg57
  z72 := Try.sizeOf57
  v72 := Try.zeroValue57
  t127 := Try.underlying71
  a127 := Try.isAgg71
  z127 := Try.sizeOf71
  v127 := Try.zeroValue71 }
theorem strExtra : Builder.Extra Try.prog strLays_ren := {
  sizeBuilder := by kernel_rfl
  liesBuilder := by kernel_rfl
  t5 := Try.underlying5
  a5 := Try.isAgg5
  z5 := Try.sizeOf5
  v5 := Try.zeroValue5
  infoByte := by kernel_rfl
  cellsByte := by kernel_rfl
  sizeByte := by kernel_rfl
  neB5 := by decide }

theorem string_any (B b : Nat) (l : List UInt8) (w : World) (h : Lib.IsBuilder 57 5 B b (Lib.byteCells l) w) (hBw : B ≤ w.heap.size) :
    Calls Try.prog 32 #[.pointer (some ⟨b, 0, none⟩)] w fun e w' => e = .returned (.string ⟨l.toArray⟩) ∧ Below B w w' := Any.Builder_String_any strLays strExtra B b l w h hBw

def numB (x : Nat) : Bool := decide (fin x)
theorem numB_kind (x : Nat) : decide (kindS x ≤ 1) = numB x := by unfold numB; rw [decide_eq_decide]; exact kindS_le

set_option maxHeartbeats 400000 in
theorem snumber_any (x : Nat) (hx : x < 18446744073709551616) (w : World) :
    Calls Try.prog 25 #[.float .f64 x] w fun e w' => e = .returned (.bool (numB x)) ∧ w = w' := by
  have H := Lib.hid (split_any x hx w)
  have HK := Lib.hid (numB_kind x)
  unfold splitV at H
  clear hx
  go_enter Try.func25, Try.ntmps25
  go_wp2_with (go_at_call 40; refine H.out.mono ?_; rintro e w' ⟨rfl, rfl⟩)
  go_ret
  exact ⟨ret_bool HK.out, rfl⟩

set_option maxHeartbeats 400000 in
theorem rnumber_any (x : Nat) (hx : x < 18446744073709551616) (w : World) :
    Calls Try.prog 26 #[.float .f64 x] w fun e w' => e = .returned (.bool (numB x)) ∧ w = w' := by
  have H := Lib.hid (rsplit_any x hx w)
  have HK := Lib.hid (numB_kind x)
  unfold splitV at H
  clear hx
  go_enter Try.func26, Try.ntmps26
  go_wp2_with (go_at_call 21; refine H.out.mono ?_; rintro e w' ⟨rfl, rfl⟩)
  go_ret
  exact ⟨ret_bool HK.out, rfl⟩

end Go.Proofs.Ytghoephmihogeaa
