/- A row of a factor: tri.Line. -/
import Derived.Test.YtghoephmihogeaaCg
namespace Go.Proofs.Ytghoephmihogeaa
open Go.RowKit Go.Shelf Lev

attribute [local go_sem] Oper.semAt_some

theorem namedIn {F : Fence} {n : Nat} {P : Program} {f : FuncId} {args : Array Value} {w : World} {Q : Ending → World → Prop} (h : ∀ W, W = w → CallsIn F n P f args W Q) : CallsIn F n P f args w Q := h w rfl

/-- A row of a number of zeros, with room. -/
theorem own_made (w : World) (e : TypeId) (i c : Nat) (h : i ≤ c) (hc : c ≤ 9223372036854775807) {base : Nat} (hb : base ≤ w.heap.size) :
    (w.alloc (.cells (madeCells #[.float .f64 0] c) e)).ownsRow base e 1 (.slice (some ⟨w.heap.size, 0, none⟩) i c) i (List.replicate i (.float .f64 0)) := by
  refine ⟨by simp, .inr ⟨w.heap.size, c, madeCells #[.float .f64 0] c, rfl, hb, heap_alloc_new w _, h, by unfold maxLen; exact hc, by rw [size_madeCells, Nat.mul_one], ?_⟩⟩
  refine List.ext_getElem (by simp [size_madeCells]; omega) fun j h1 h2 => ?_
  simp [madeCells, Nat.mod_one]

theorem boxed_kept {X Y : World} {row : Option Nat} {g : Nat} {t : TypeId} {v : Value} (h : Boxed X g t v) (hg : X.grownBy Y row) (hr : ∀ r, row = some r → ∃ o : Obj, X.heap[r]? = some o ∧ o.isCells = false) : Boxed Y g t v :=
  h.kept hg fun e' => by
    obtain ⟨o, ho, hc⟩ := hr g e'.symm
    rw [show X.heap[g]? = _ from h] at ho; cases ho; cases hc

theorem own_cells {W : World} {base : Nat} {e : TypeId} {size k : Nat} {v : Value} {xs : List Value} (h : W.ownsRow base e size v k xs) : ∀ (j : Nat) (o : Obj), v.ownBlock = some j → W.heap[j]? = some o → o.isCells = true := by
  intro j o ej hj
  rcases h.2 with ⟨rfl, _⟩ | ⟨g, cap, cur, rfl, _, hgb, _⟩
  · simp [Value.ownBlock] at ej
  · obtain rfl : g = j := by simpa [Value.ownBlock] using ej
    rw [hgb] at hj; cases hj; rfl

/-- An append onto a row in a variable's box, no cell laid for it. -/
theorem appended0 {W w1 : World} {n₀ B : Nat} {t e : TypeId} {size : Nat} {v v' : Value} {k m : Nat} {xs ys : List Value}
    (hv : Boxed W B t v) (hte : t ≠ e) (hrow : W.ownsRow n₀ e size v k xs) (hn₀ : n₀ ≤ W.heap.size) (hB : n₀ ≤ B)
    (hown' : w1.ownsRow n₀ e size v' m ys) (hgrow : W.grownBy w1 v.ownBlock) :
    Boxed w1 B t v ∧ Boxed (w1.setCell ⟨B, 0, none⟩ v') B t v' ∧ (w1.setCell ⟨B, 0, none⟩ v').ownsRow n₀ e size v' m ys ∧ KeepsOthers W (w1.setCell ⟨B, 0, none⟩ v') ∧ Below n₀ W (w1.setCell ⟨B, 0, none⟩ v') := by
  have hv1 : Boxed w1 B t v := hv.kept hgrow (hv.not_row hte hrow)
  refine ⟨hv1, hv1.set v', hown'.kept (grownBy_setCell' w1 B v') (.inr (hv1.not_row hte hown').symm), ?_, ?_⟩
  · exact (KeepsOthers.of_grownBy hgrow (own_cells hrow)).trans (KeepsOthers.setCell _ _ _)
  · exact ((Below.refl n₀ W).grown hgrow hn₀ fun j ej => (hrow.lt j ej).1).setCell (p := ⟨B, 0, none⟩) hB v'

/-- The number of the row that came last. -/
def lastx {N : Nat} (pre : List (Fin N)) : Nat := match pre.getLast? with | some x => x.1 | none => 0
theorem lastx_snoc {N : Nat} (pre : List (Fin N)) (x : Fin N) : lastx (pre ++ [x]) = x.1 := by unfold lastx; rw [List.getLast?_concat]
theorem lastx_take {N k : Nat} (hk : k < N) : lastx ((List.finRange N).take (k + 1)) = k := by rw [take_fin hk, lastx_snoc]

def rowV (N : Nat) (xs : List Nat) (k : Nat) : List Value := ((xs.drop (st N k)).take (N - k)).map (Value.float .f64)
theorem rowV_length {N k : Nat} {xs : List Nat} (hk : k < N) (hl : xs.length = st N N) : (rowV N xs k).length = N - k := by
  have := st_end hk
  rw [st_succ] at this
  unfold rowV
  rw [List.length_map, List.length_take, List.length_drop]; omega
theorem rowV_get {N k j : Nat} {xs : List Nat} {u : Value} (h : (rowV N xs k)[j]? = some u) : st N k + j < xs.length ∧ j < N - k ∧ u = .float .f64 (xs[st N k + j]?.getD 0) := by
  unfold rowV at h
  rw [List.getElem?_map] at h
  cases h2 : ((xs.drop (st N k)).take (N - k))[j]? with
  | none => rw [h2] at h; cases h
  | some y =>
    rw [h2] at h
    have hj := (List.getElem?_eq_some_iff.1 h2).1
    rw [List.length_take, List.length_drop] at hj
    rw [List.getElem?_take_of_lt (by omega), List.getElem?_drop] at h2
    refine ⟨by omega, by omega, ?_⟩
    rw [h2]; cases h; rfl

end Go.Proofs.Ytghoephmihogeaa
