/- Contracts of package kern and of the document's answers for layer 5: All, fit, the counter. -/
import Derived.Test.YtkhnoffhbfcgfaaMd
import Derived.Test.YtkhnoffhbfcgfaaBi
import Derived.Test.YtkhnoffhbfcgfaaCe
import Derived.Test.YtkhnoffhbfcgfaaT
namespace Go.Proofs.Ytkhnoffhbfcgfaa
open Go.RowKit Go.Shelf Lev

attribute [local go_sem] order_lt order_gt order_eq order_ne flt_or_feq flt_or_feq' run_store_float

theorem run_sqrt {b r : Nat} (h : D.sqrt b = some r) (w : World) : (callFunc 61 #[.float .f64 b]).run Try.prog w = .ok (.value (.float .f64 r)) w := by
  rw [run_callFunc_extern Try.func61 (by kernel_rfl) (by kernel_rfl) (by kernel_rfl) (e := Extern.MathSqrt.sqrt) (by kernel_rfl)]
  have h' : FloatKind.f64.format.sqrt b = some r := h
  have e : Extern.MathSqrt.sqrt #[.float .f64 b] = (match FloatKind.f64.format.sqrt b with
    | some r => pure (.float .f64 r)
    | none => do pure (.float .f64 (← choose (.nanBits .f64 b b)))) := rfl
  rw [h'] at e
  rw [e]
  rfl

set_option maxHeartbeats 400000 in
theorem sqrt_any (b r : Nat) (h : D.sqrt b = some r) (w : World) :
    Calls Try.prog 35 #[.float .f64 b] w fun e w' => e = .returned (.float .f64 r) ∧ w = w' := by
  have hs := fun w => run_sqrt h w
  clear h
  go_enter Try.func35, Try.ntmps35
  go_wp2
  go_ret
  exact ⟨rfl, rfl⟩

theorem allIn_no {xs : List Nat} {k : Nat} (hk : k < xs.length) (h : inS (ge xs k) = false) : allIn xs = false := by
  unfold allIn
  rw [List.all_eq_false]
  refine ⟨xs[k], List.getElem_mem hk, ?_⟩
  unfold ge at h
  rw [List.getElem?_eq_getElem hk] at h
  simpa using h
theorem allIn_yes {xs : List Nat} (h : ∀ k, k < xs.length → inS (ge xs k) = true) : allIn xs = true := by
  unfold allIn
  rw [List.all_eq_true]
  intro x hx
  rw [List.mem_iff_getElem] at hx
  obtain ⟨k, hk, rfl⟩ := hx
  have := h k hk
  unfold ge at this
  rw [List.getElem?_eq_getElem hk] at this
  exact this

end Go.Proofs.Ytkhnoffhbfcgfaa
