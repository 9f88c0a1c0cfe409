/- Arguments that are arrays of two or three numbers. -/
import Derived.Test.YtcoaachajdomcaaMa
namespace Go.Proofs.Ytcoaachajdomcaa
open Go.RowKit Go.ChangeShapes Go.WideShapes Go.Joins Go.Deep Lev

section
variable {H : Type} {enc : TypeId × Value → H} {W : World}

theorem list_two {α : Type} : ∀ (l : List α), l.length = 2 → ∃ a b, l = [a, b]
  | [a, b], _ => ⟨a, b, rfl⟩
theorem list_three {α : Type} : ∀ (l : List α), l.length = 3 → ∃ a b c, l = [a, b, c]
  | [a, b, c], _ => ⟨a, b, c, rfl⟩

theorem trod_float1 {m : Nat} {c : Value} {x : DataW H × List MemPlace} (h : DataW.trod enc Try.prog W 0 (fun _ => true) true m 22 [c] = some x) : ∃ b, c = .float .f64 b ∧ b < 18446744073709551616 := by
  cases m with
  | zero => simp [DataW.trod] at h
  | succ n =>
    simp only [DataW.trod, Try.underlying22] at h
    cases c <;> simp at h
    rename_i k b
    obtain ⟨⟨rfl, hw⟩, _⟩ := h
    exact ⟨b, rfl, by simpa [Lit.wf] using hw⟩

theorem open_arr {P : Program} {t e : TypeId} {n : Nat} (hu : P.underlying t = some (.array n e)) (he : P.cellsOf e = 1) {r : Reach} {b0 : Nat} {base : Nat} {spare : Nat → Bool} {held : Bool} {v : Value} {d : DataW H} {p : List MemPlace}
    (hv : Value.okWide P W r b0 t v) (h : DataW.Trod enc P W base spare held t v d p) :
    ∃ (cs : List Value) (m : Nat), v = .agg cs.toArray ∧ cs.length = P.cellsOf t ∧ ∀ i, i < n → ∃ x, DataW.trod enc P W base spare held m e ((cs.drop i).take 1) = some x := by
  simp only [Value.okWide, hu] at hv
  obtain ⟨cs, rfl, hsz, _⟩ := hv
  obtain ⟨fuel, hf⟩ := h
  have hf' : DataW.trod enc P W base spare held fuel t cs.toList = some (d, p) := by simpa [Value.cells] using hf
  obtain ⟨xs, m, _, _, _, hl, hel⟩ := DataW.trod_array hu hf'
  refine ⟨cs.toList, m, by simp, by simpa using hsz, fun i hi => ?_⟩
  have := hel i hi
  rw [he, Nat.mul_one] at this
  exact ⟨xs[i]'(by omega), by rw [this, List.getElem?_eq_getElem]⟩

theorem open_a2f {v : Value} {d : DataW H} {p : List MemPlace} (hv : Value.okWide Try.prog W .any 0 35 v) (h : DataW.Trod enc Try.prog W 0 (fun _ => true) true 35 v d p) :
    ∃ a b : Nat, v = .agg #[.float .f64 a, .float .f64 b] ∧ a < 18446744073709551616 ∧ b < 18446744073709551616 := by
  obtain ⟨cs, m, rfl, hl, hel⟩ := open_arr Try.underlying35 (by kernel_rfl) hv h
  rw [show Try.prog.cellsOf 35 = 2 from by kernel_rfl] at hl
  obtain ⟨c0, c1, rfl⟩ := list_two cs hl
  obtain ⟨x0, h0⟩ := hel 0 (by decide)
  obtain ⟨x1, h1⟩ := hel 1 (by decide)
  simp only [List.drop_zero, List.drop_succ_cons, List.take_succ_cons, List.take_zero] at h0 h1
  obtain ⟨a, e0, w0⟩ := trod_float1 h0
  obtain ⟨b, e1, w1⟩ := trod_float1 h1
  subst e0 e1
  exact ⟨a, b, rfl, w0, w1⟩

end

end Go.Proofs.Ytcoaachajdomcaa
