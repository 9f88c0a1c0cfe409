/- A block of memory that is known whole. -/
import Derived.Test.YtkhnoffhbfcgfaaMa
import Derived.Laws.Rows
import Derived.Test.YtkhnoffhbfcgfaaT
namespace Go.Proofs.Ytkhnoffhbfcgfaa
open Go.RowKit Lev

/-- Block g holds the cells cs of type t. -/
def Bk (w : World) (g : Nat) (t : TypeId) (cs : Array Value) : Prop := w.heap[g]? = some (.cells cs t (0, 0))

theorem Bk.lt {w : World} {g : Nat} {t : TypeId} {cs : Array Value} (h : Bk w g t cs) : g < w.heap.size := by
  rcases Nat.lt_or_ge g w.heap.size with h1 | h1
  · exact h1
  · unfold Bk at h; rw [Array.getElem?_eq_none h1] at h; cases h
theorem Bk.cell {w : World} {g : Nat} {t : TypeId} {cs : Array Value} (h : Bk w g t cs) (i : Nat) : w.cell? ⟨g, i, none⟩ = cs[i]? := cell_of_row w g i cs t (0, 0) h
theorem Bk.frozen {w : World} {g : Nat} {t : TypeId} {cs : Array Value} (h : Bk w g t cs) (i : Nat) : w.frozen? ⟨g, i, none⟩ = false := by
  unfold Bk at h; simp [World.frozen?, h]
theorem Bk.below {w w' : World} {g B : Nat} {t : TypeId} {cs : Array Value} (h : Bk w g t cs) (hb : Below B w w') (hg : g < B) : Bk w' g t cs := (hb.block g hg).trans h
theorem Bk.alloc {w : World} {g : Nat} {t : TypeId} {cs : Array Value} (h : Bk w g t cs) (o : Obj) : Bk (w.alloc o) g t cs := (Below.heap_alloc w o g h.lt).trans h
theorem Bk.new (w : World) (t : TypeId) (cs : Array Value) : Bk (w.alloc (.cells cs t)) w.heap.size t cs := heap_alloc_new w _
theorem Bk.set {w : World} {g : Nat} {t : TypeId} {cs : Array Value} (h : Bk w g t cs) (i : Nat) (u : Value) : Bk (w.setCell ⟨g, i, none⟩ u) g t (cs.setIfInBounds i u) := by
  unfold Bk at h ⊢; simp [World.setCell, Array.getElem?_modify, h]
theorem Bk.other {w : World} {g : Nat} {t : TypeId} {cs : Array Value} (h : Bk w g t cs) {p : Addr} (hp : g ≠ p.block) (u : Value) : Bk (w.setCell p u) g t cs := (Below.heap_setCell w p u g hp).trans h

theorem SlArg.below {w w' : World} {A : Option Addr} {xs : List Nat} {c : Nat} (h : SlArg w A xs c) (hb : Below w.heap.size w w') : SlArg w' A xs c :=
  ⟨(h.reads.below hb).mono hb.size, h.cap, h.room⟩
theorem SlArg.setCell {w : World} {A : Option Addr} {xs : List Nat} {c : Nat} (h : SlArg w A xs c) {p : Addr} (hp : 0 < xs.length → ∀ a, A = some a → a.block ≠ p.block) (u : Value) : SlArg (w.setCell p u) A xs c := by
  refine ⟨⟨h.reads.1, fun hl => ?_⟩, h.cap, h.room⟩
  obtain ⟨b, off, rfl, hB, hc⟩ := h.reads.2 hl
  refine ⟨b, off, rfl, by simpa [World.setCell] using hB, fun j hj => ?_⟩
  rw [World.cell?_setCell_other w p ⟨b, off + j, none⟩ u (fun e => hp hl _ rfl (by rw [e]))]
  exact hc j hj

/-- A slice of floats that was made from block base on: its value, and what it holds. -/
def MadeF (base : Nat) (w : World) (v : Value) (xs : List Nat) : Prop := ∃ (A : Option Addr) (c : Nat), v = .slice A xs.length c ∧ SlArg w A xs c ∧ ∀ a, A = some a → base ≤ a.block

theorem own_from {w : World} {base : Nat} {e : TypeId} {v : Value} {n : Nat} {ys : List Value} (h : w.ownsRow base e 1 v n ys) : ∀ g, v.ownBlock = some g → base ≤ g := by
  rcases h.2 with ⟨rfl, _⟩ | ⟨g', cap, cur, rfl, hb, _⟩
  · intro g hg; simp [Value.ownBlock] at hg
  · intro g hg
    have : g' = g := by simpa [Value.ownBlock] using hg
    omega

theorem made_of_own {w : World} {base : Nat} {e : TypeId} {v : Value} {ys : List Nat} (h : w.ownsRow base e 1 v ys.length (ys.map (Value.float .f64))) (hy : ∀ y ∈ ys, y < 18446744073709551616) : MadeF base w v ys := by
  have h2 := h.2
  rcases h2 with ⟨rfl, h0⟩ | ⟨g, cap, cur, rfl, hb, hg, hn, hc, _, _⟩
  · have : ys = [] := List.eq_nil_of_length_eq_zero h0
    subst this
    exact ⟨none, 0, rfl, ⟨FlR.nil _ _ _, Nat.le_refl _, by decide⟩, fun a ha => by cases ha⟩
  · refine ⟨some ⟨g, 0, none⟩, cap, rfl, ⟨⟨hy, fun _ => ⟨g, 0, rfl, ?_, fun j hj => ?_⟩⟩, hn, hc⟩, fun a ha => by cases ha; exact hb⟩
    · rcases Nat.lt_or_ge g w.heap.size with hlt | hge
      · exact hlt
      · rw [Array.getElem?_eq_none hge] at hg; cases hg
    · have h3 := h.cells (g := g) rfl j (Value.float .f64 (ys[j]?.getD 0)) (by rw [List.getElem?_map, List.getElem?_eq_getElem hj]; rfl)
      have e2 : (⟨g, 0, none⟩ : Addr).add j = ⟨g, 0 + j, none⟩ := by
        unfold Addr.add; split
        · subst_vars; rfl
        · rfl
      rw [e2] at h3; exact h3

/-- A factor as a result of a call that began with 'base' blocks and a factor of address A: it lies there, or is new. -/
def FacB (base : Nat) (A : Option Addr) (w : World) (v : Value) (f : Fct) : Prop :=
  ∃ (A2 : Option Addr) (c2 : Nat), v = facV f.C A2 f.xs.length c2 f.R f.T ∧ SlArg w A2 f.xs c2 ∧ (A2 = A ∨ ∀ a, A2 = some a → base ≤ a.block)

def zeroFac : Value := .agg #[.int .i64 0, .slice none 0 0, .int .i64 0, .int .i64 0]

theorem facB_zero (base : Nat) (A : Option Addr) (w : World) : FacB base A w zeroFac Fct.zero := ⟨none, 0, rfl, ⟨FlR.nil _ _ _, Nat.le_refl _, by decide⟩, .inr (fun a ha => by cases ha)⟩

/-- Four cells are stored into a factor's box. -/
def stored4 (w : World) (g : Nat) (v0 v1 v2 v3 : Value) : World := (((w.setCell ⟨g, 0, none⟩ v0).setCell ⟨g, 1, none⟩ v1).setCell ⟨g, 2, none⟩ v2).setCell ⟨g, 3, none⟩ v3

theorem fac_box {w : World} {g : Nat} {t : TypeId} {u0 u1 u2 u3 : Value} (h : Bk w g t #[u0, u1, u2, u3]) (v0 v1 v2 v3 : Value) :
    Bk (stored4 w g v0 v1 v2 v3) g t #[v0, v1, v2, v3] ∧ (∀ B a, Below B a w → B ≤ g → Below B a (stored4 w g v0 v1 v2 v3)) ∧
    (∀ (A : Option Addr) (xs : List Nat) (c : Nat), SlArg w A xs c → (0 < xs.length → ∀ a, A = some a → a.block ≠ g) → SlArg (stored4 w g v0 v1 v2 v3) A xs c) := by
  unfold stored4
  refine ⟨by simpa using (((h.set 0 v0).set 1 v1).set 2 v2).set 3 v3, fun B a hb hg => ?_, fun A xs c hs hne => ?_⟩
  · exact (((hb.setCell (p := ⟨g, 0, none⟩) hg v0).setCell (p := ⟨g, 1, none⟩) hg v1).setCell (p := ⟨g, 2, none⟩) hg v2).setCell (p := ⟨g, 3, none⟩) hg v3
  · exact (((hs.setCell (p := ⟨g, 0, none⟩) hne v0).setCell (p := ⟨g, 1, none⟩) hne v1).setCell (p := ⟨g, 2, none⟩) hne v2).setCell (p := ⟨g, 3, none⟩) hne v3

end Go.Proofs.Ytkhnoffhbfcgfaa
