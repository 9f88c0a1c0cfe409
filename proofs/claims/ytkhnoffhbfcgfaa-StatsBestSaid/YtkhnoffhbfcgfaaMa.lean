/- Lists of floats in memory; a factor as a value; how arguments of these kinds are opened. -/
import Derived.Test.YtkhnoffhbfcgfaaBi
import Derived.Test.YtkhnoffhbfcgfaaT
import Derived.ProofKit
import Derived.OpenShut
import Derived.Deep.Slices
import Derived.Lib.SmallJoins
import Derived.Deep.Draws
namespace Go.Proofs.Ytkhnoffhbfcgfaa
open Go.RowKit Go.ChangeShapes Go.WideShapes Go.Joins Go.Deep Lev

theorem addr_addM (b off k : Nat) : (⟨b, off + k, none⟩ : Addr) = Addr.add ⟨b, off, none⟩ k := by
  unfold Addr.add; split
  · subst_vars; rfl
  · rfl
/-- The slice of address A holds the floats xs, below block B. -/
def FlR (B : Nat) (w : World) (A : Option Addr) (xs : List Nat) : Prop :=
  (∀ x ∈ xs, x < 18446744073709551616) ∧ (0 < xs.length → ∃ b off, A = some ⟨b, off, none⟩ ∧ b < B ∧ ∀ j, j < xs.length → w.cell? ⟨b, off + j, none⟩ = some (.float .f64 (xs[j]?.getD 0)))

theorem FlR.lt {B : Nat} {w : World} {A : Option Addr} {xs : List Nat} (h : FlR B w A xs) (j : Nat) : xs[j]?.getD 0 < 18446744073709551616 := by
  by_cases hj : j < xs.length
  · rw [List.getElem?_eq_getElem hj]; exact h.1 _ (List.getElem_mem hj)
  · rw [List.getElem?_eq_none (by omega)]; decide
theorem FlR.below {B : Nat} {w w' : World} {A : Option Addr} {xs : List Nat} (h : FlR B w A xs) (hb : Below B w w') : FlR B w' A xs :=
  ⟨h.1, fun hl => by
    obtain ⟨b, off, e, hB, hc⟩ := h.2 hl
    exact ⟨b, off, e, hB, fun j hj => (hb.cell (p := ⟨b, off + j, none⟩) hB).trans (hc j hj)⟩⟩
theorem FlR.mono {B B' : Nat} {w : World} {A : Option Addr} {xs : List Nat} (h : FlR B w A xs) (hb : B ≤ B') : FlR B' w A xs :=
  ⟨h.1, fun hl => by
    obtain ⟨b, off, e, hB, hc⟩ := h.2 hl
    exact ⟨b, off, e, by omega, hc⟩⟩
theorem FlR.nil (B : Nat) (w : World) (A : Option Addr) : FlR B w A [] := ⟨fun _ h => absurd h (List.not_mem_nil), fun h => absurd h (by decide)⟩

/-- An argument that is a slice of floats. -/
structure SlArg (W : World) (A : Option Addr) (xs : List Nat) (c : Nat) : Prop where
  reads : FlR W.heap.size W A xs
  cap : xs.length ≤ c
  room : c ≤ 9223372036854775807

/-- A factor's value. -/
def facV (C : Int) (A : Option Addr) (n c : Nat) (R T : Int) : Value := .agg #[.int .i64 C, .slice A n c, .int .i64 R, .int .i64 T]

/-- An argument that is a factor. -/
structure FacArg (W : World) (C : Int) (A : Option Addr) (xs : List Nat) (c : Nat) (R T : Int) : Prop where
  tri : SlArg W A xs c
  cols : -9223372036854775808 ≤ C ∧ C ≤ 9223372036854775807
  rows : -9223372036854775808 ≤ R ∧ R ≤ 9223372036854775807
  turns : -9223372036854775808 ≤ T ∧ T ≤ 9223372036854775807

section
variable {H : Type} {enc : TypeId × Value → H} {W : World}

/-- The bits of the float at an address. -/
def bitsAt (w : World) (a : Addr) : Nat := match w.cell? a with
  | some (.float _ b) => b
  | _ => 0

theorem float_cell {w : World} {a : Addr} {fuel : Nat} {cs : List Value} {x : DataW H × List MemPlace} (hc : w.cells? 0 a 1 = some cs)
    (h : DataW.trod enc Try.prog w 0 (fun _ => true) true fuel 26 cs = some x) : ∃ b, w.cell? a = some (.float .f64 b) ∧ b < 18446744073709551616 := by
  obtain ⟨_, hcl, hat⟩ := World.cells?_some hc
  obtain ⟨v, rfl⟩ : ∃ v, cs = [v] := by
    match cs, hcl with
    | [v], _ => exact ⟨v, rfl⟩
  have h0 := hat 0 (by decide)
  have h1 : w.cell? a = some v := by simpa [Addr.add] using h0
  cases fuel with
  | zero => simp [DataW.trod] at h
  | succ n =>
    simp only [DataW.trod, Try.underlying26] at h
    cases v <;> simp at h
    rename_i k b
    obtain ⟨⟨rfl, hw⟩, _⟩ := h
    exact ⟨b, h1, by simpa [Lit.wf] using hw⟩

theorem floats_of {fuel : Nat} {cs : List Value} {x : DataW H × List MemPlace} (h : DataW.trod enc Try.prog W 0 (fun _ => true) true fuel 22 cs = some x) (hlt : ∀ q ∈ x.2, q.block < W.heap.size) :
    ∃ (A : Option Addr) (xs : List Nat) (c : Nat), cs = [.slice A xs.length c] ∧ SlArg W A xs c := by
  rcases open_slice Try.underlying22 h with ⟨hcs, _⟩ | ⟨a, len, cap, m, k, D, Pl, hcs, hb, hl, hm, hmm, hx, hi⟩
  · exact ⟨none, [], 0, hcs, FlR.nil _ _ _, Nat.le_refl _, by decide⟩
  · have hC : Try.prog.cellsOf 26 = 1 := by kernel_rfl
    rw [hC] at hi hx
    simp only [if_true] at hmm
    subst hmm
    have key : ∀ i, i < m → ∃ b, W.cell? (a.add i) = some (.float .f64 b) ∧ b < 18446744073709551616 := fun i hi0 => by
      obtain ⟨cs', hc, ht⟩ := hi i hi0
      rw [Nat.mul_one] at hc
      exact float_cell hc ht
    have hat : ∀ i, i < m → W.cell? (a.add i) = some (.float .f64 (bitsAt W (a.add i))) ∧ bitsAt W (a.add i) < 18446744073709551616 := fun i hi0 => by
      obtain ⟨b, h1, h2⟩ := key i hi0
      have e : bitsAt W (a.add i) = b := by unfold bitsAt; rw [h1]
      rw [e]; exact ⟨h1, h2⟩
    refine ⟨some a, (List.range len).map (fun i => bitsAt W (a.add i)), m, by simpa using hcs, ⟨fun y hy => ?_, fun hlen => ?_⟩, by simpa using hl, hm⟩
    · rw [List.mem_map] at hy
      obtain ⟨i, hi1, rfl⟩ := hy
      rw [List.mem_range] at hi1
      exact (hat i (by omega)).2
    · rw [List.length_map, List.length_range] at hlen
      obtain ⟨b, off, spot⟩ := a
      have h0 := (hat 0 (by omega)).1
      have hspot : spot = none := by
        have := World.cell?_spot h0
        simpa [Addr.add] using this
      subst hspot
      refine ⟨b, off, rfl, ?_, fun j hj => ?_⟩
      · have hq : MemPlace.cell b off ∈ x.2 := by
          rw [hx]
          refine List.mem_append.2 (.inl ?_)
          unfold MemPlace.row
          rw [List.mem_map]
          exact ⟨0, by simp; omega, rfl⟩
        exact hlt _ hq
      · rw [List.length_map, List.length_range] at hj
        have h1 := (hat j (by omega)).1
        have e : (((List.range len).map (fun i => bitsAt W (Addr.add ⟨b, off, none⟩ i)))[j]?).getD 0 = bitsAt W (Addr.add ⟨b, off, none⟩ j) := by
          rw [List.getElem?_map, List.getElem?_range hj]; rfl
        rw [e]
        have e2 : (⟨b, off + j, none⟩ : Addr) = Addr.add ⟨b, off, none⟩ j := addr_addM b off j
        rw [e2]; exact h1

set_option maxRecDepth 100000 in
theorem open_floats {v : Value} {d : DataW H} {p : List MemPlace} (hv : Value.okWide Try.prog W .any 0 22 v) (h : DataW.Trod enc Try.prog W 0 (fun _ => true) true 22 v d p) (hlt : ∀ q ∈ p, q.block < W.heap.size) :
    ∃ (A : Option Addr) (xs : List Nat) (c : Nat), v = .slice A xs.length c ∧ SlArg W A xs c := by
  obtain ⟨a0, len, cap, rfl⟩ := okWide_slice Try.underlying22 hv
  obtain ⟨fuel, hf⟩ := h
  obtain ⟨A, xs, c, hcs, hs⟩ := floats_of hf hlt
  simp [Value.cells] at hcs
  obtain ⟨rfl, rfl, rfl⟩ := hcs
  exact ⟨_, xs, _, rfl, hs⟩

set_option maxRecDepth 100000 in
theorem open_factor {v : Value} {d : DataW H} {p : List MemPlace} (hv : Value.okWide Try.prog W .any 0 24 v) (h : DataW.Trod enc Try.prog W 0 (fun _ => true) true 24 v d p) (hlt : ∀ q ∈ p, q.block < W.heap.size) :
    ∃ (C : Int) (A : Option Addr) (xs : List Nat) (c : Nat) (R T : Int), v = facV C A xs.length c R T ∧ FacArg W C A xs c R T := by
  obtain ⟨v0, v1, v2, v3, y0, y1, y2, y3, n, rfl, rfl, rfl, h0, h1, h2, h3⟩ := open_agg4 Try.underlying24 (by kernel_rfl) (by kernel_rfl) hv h
  obtain ⟨C, e0, _, w0⟩ := DataW.trod_int Try.underlying3 h0
  obtain ⟨R, e2, _, w2⟩ := DataW.trod_int Try.underlying3 h2
  obtain ⟨T, e3, _, w3⟩ := DataW.trod_int Try.underlying3 h3
  simp at e0 e2 e3
  subst e0 e2 e3
  obtain ⟨A, xs, c, e1, hs⟩ := floats_of h1 (fun q hq => hlt q (by simp [hq]))
  simp at e1
  subst e1
  simp only [Lit.wf, Bool.and_eq_true, decide_eq_true_eq] at w0 w2 w3
  exact ⟨C, A, xs, c, R, T, rfl, hs, w0, w2, w3⟩

end

end Go.Proofs.Ytkhnoffhbfcgfaa
