/- Arguments that are arrays of two or three numbers. -/
import Derived.Test.YtcoaachajdomcaaMa
namespace Go.Proofs.Ytcoaachajdomcaa
open Go.RowKit Go.ChangeShapes Go.WideShapes Go.Joins Go.Deep Lev

section
variable {H : Type} {enc : TypeId × Value → H} {W : World}

theorem list_two {α : Type} : ∀ (l : List α), l.length = 2 → ∃ a b, l = [a, b]
  | [a, b], _ => ⟨a, b, rfl⟩
theorem list_three {α : Type} : ∀ (l : List α), l.length = 3 → ∃ a b c, l = [a, b, c]
  | [a, b, c], _ => ⟨a, b, c, rfl⟩

theorem open_arr {P : Program} {t e : TypeId} {n : Nat} (hu : P.underlying t = some (.array n e)) (he : P.cellsOf e = 1) {r : Reach} {b0 : Nat} {base : Nat} {spare : Nat → Bool} {held : Bool} {v : Value} {d : DataW H} {p : List MemPlace}
    (hv : Value.okWide P W r b0 t v) (h : DataW.Trod enc P W base spare held t v d p) :
    ∃ (cs : List Value) (m : Nat), v = .agg cs.toArray ∧ cs.length = P.cellsOf t ∧ ∀ i, i < n → ∃ x, DataW.trod enc P W base spare held m e ((cs.drop i).take 1) = some x := by
  simp only [Value.okWide, hu] at hv
  obtain ⟨cs, rfl, hsz, _⟩ := hv
  obtain ⟨fuel, hf⟩ := h
  have hf' : DataW.trod enc P W base spare held fuel t cs.toList = some (d, p) := by simpa [Value.cells] using hf
  obtain ⟨xs, m, _, _, _, hl, hel⟩ := DataW.trod_array hu hf'
  refine ⟨cs.toList, m, by simp, by simpa using hsz, fun i hi => ?_⟩
  have := hel i hi
  rw [he, Nat.mul_one] at this
  exact ⟨xs[i]'(by omega), by rw [this, List.getElem?_eq_getElem]⟩

end

end Go.Proofs.Ytcoaachajdomcaa
