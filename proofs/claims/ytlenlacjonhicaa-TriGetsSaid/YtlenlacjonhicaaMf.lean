/- Arguments that are arrays of two or three numbers. -/
import Derived.Test.YtlenlacjonhicaaMa
namespace Go.Proofs.Ytlenlacjonhicaa
open Go.RowKit Go.ChangeShapes Go.WideShapes Go.Joins Go.Deep Lev

section
variable {H : Type} {enc : TypeId × Value → H} {W : World}

theorem list_two {α : Type} : ∀ (l : List α), l.length = 2 → ∃ a b, l = [a, b]
  | [a, b], _ => ⟨a, b, rfl⟩
theorem list_three {α : Type} : ∀ (l : List α), l.length = 3 → ∃ a b c, l = [a, b, c]
  | [a, b, c], _ => ⟨a, b, c, rfl⟩

theorem open_arr {P : Program} {t e : TypeId} {n : Nat} (hu : P.underlying t = some (.array n e)) (he : P.cellsOf e = 1) {r : Reach} {b0 : Nat} {base : Nat} {spare : Nat → Bool} {held : Bool} {v : Value} {d : DataW H} {p : List MemPlace}
    (hv : Value.okWide P W r b0 t v) (h : DataW.Trod enc P W base spare held t v d p) :
    ∃ (cs : List Value) (m : Nat), v = .agg cs.toArray ∧ cs.length = P.cellsOf t ∧ ∀ i, i < n → ∃ x, DataW.trod enc P W base spare held m e ((cs.drop i).take 1) = some x := by
  simp only [Value.okWide, hu] at hv
  obtain ⟨cs, rfl, hsz, _⟩ := hv
  obtain ⟨fuel, hf⟩ := h
  have hf' : DataW.trod enc P W base spare held fuel t cs.toList = some (d, p) := by simpa [Value.cells] using hf
  obtain ⟨xs, m, _, _, _, hl, hel⟩ := DataW.trod_array hu hf'
  refine ⟨cs.toList, m, by simp, by simpa using hsz, fun i hi => ?_⟩
  have := hel i hi
  rw [he, Nat.mul_one] at this
  exact ⟨xs[i]'(by omega), by rw [this, List.getElem?_eq_getElem]⟩

theorem open_a3i {v : Value} {d : DataW H} {p : List MemPlace} (hv : Value.okWide Try.prog W .any 0 25 v) (h : DataW.Trod enc Try.prog W 0 (fun _ => true) true 25 v d p) :
    ∃ a b c : Int, v = .agg #[.int .i64 a, .int .i64 b, .int .i64 c] ∧ (-9223372036854775808 ≤ a ∧ a ≤ 9223372036854775807) ∧ (-9223372036854775808 ≤ b ∧ b ≤ 9223372036854775807) ∧ (-9223372036854775808 ≤ c ∧ c ≤ 9223372036854775807) := by
  obtain ⟨cs, m, rfl, hl, hel⟩ := open_arr Try.underlying25 (by kernel_rfl) hv h
  rw [show Try.prog.cellsOf 25 = 3 from by kernel_rfl] at hl
  obtain ⟨c0, c1, c2, rfl⟩ := list_three cs hl
  obtain ⟨x0, h0⟩ := hel 0 (by decide)
  obtain ⟨x1, h1⟩ := hel 1 (by decide)
  obtain ⟨x2, h2⟩ := hel 2 (by decide)
  simp only [List.drop_zero, List.drop_succ_cons, List.take_succ_cons, List.take_zero] at h0 h1 h2
  obtain ⟨a, e0, _, w0⟩ := DataW.trod_int Try.underlying3 h0
  obtain ⟨b, e1, _, w1⟩ := DataW.trod_int Try.underlying3 h1
  obtain ⟨c, e2, _, w2⟩ := DataW.trod_int Try.underlying3 h2
  simp at e0 e1 e2
  subst e0 e1 e2
  simp only [Lit.wf, Bool.and_eq_true, decide_eq_true_eq] at w0 w1 w2
  exact ⟨a, b, c, rfl, w0, w1, w2⟩

theorem open_a2i {v : Value} {d : DataW H} {p : List MemPlace} (hv : Value.okWide Try.prog W .any 0 36 v) (h : DataW.Trod enc Try.prog W 0 (fun _ => true) true 36 v d p) :
    ∃ a b : Int, v = .agg #[.int .i64 a, .int .i64 b] ∧ (-9223372036854775808 ≤ a ∧ a ≤ 9223372036854775807) ∧ (-9223372036854775808 ≤ b ∧ b ≤ 9223372036854775807) := by
  obtain ⟨cs, m, rfl, hl, hel⟩ := open_arr Try.underlying36 (by kernel_rfl) hv h
  rw [show Try.prog.cellsOf 36 = 2 from by kernel_rfl] at hl
  obtain ⟨c0, c1, rfl⟩ := list_two cs hl
  obtain ⟨x0, h0⟩ := hel 0 (by decide)
  obtain ⟨x1, h1⟩ := hel 1 (by decide)
  simp only [List.drop_zero, List.drop_succ_cons, List.take_succ_cons, List.take_zero] at h0 h1
  obtain ⟨a, e0, _, w0⟩ := DataW.trod_int Try.underlying3 h0
  obtain ⟨b, e1, _, w1⟩ := DataW.trod_int Try.underlying3 h1
  simp at e0 e1
  subst e0 e1
  simp only [Lit.wf, Bool.and_eq_true, decide_eq_true_eq] at w0 w1
  exact ⟨a, b, rfl, w0, w1⟩

end

end Go.Proofs.Ytlenlacjonhicaa
