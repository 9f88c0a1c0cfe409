/- Plain texts, laid as one. -/
import Derived.Test.YtigacobphgeeaaaB9
import Derived.Test.YtigacobphgeeaaaT9
import Derived.ProofKit
import Derived.OpenShut
import Derived.Deep.Slices
import Derived.Lib.SmallJoins
import Derived.Deep.Draws
import Derived.Laws.Rows
import Derived.Deep.OwnRows
import Derived.Deep.QuietTactic
import Derived.BigQuiet
import Derived.Laws.Entries
/- Lists of floats in memory; a factor as a value; how arguments of these kinds are opened. -/
namespace Go.Proofs.Ytigacobphgeeaaa
open Go.RowKit Go.ChangeShapes Go.WideShapes Go.Joins Go.Deep Lev

theorem addr_addM (b off k : Nat) : (⟨b, off + k, none⟩ : Addr) = Addr.add ⟨b, off, none⟩ k := by
  unfold Addr.add; split
  · subst_vars; rfl
  · rfl
/-- The slice of address A holds the floats xs, below block B. -/
def FlR (B : Nat) (w : World) (A : Option Addr) (xs : List Nat) : Prop :=
  (∀ x ∈ xs, x < 18446744073709551616) ∧ (0 < xs.length → ∃ b off, A = some ⟨b, off, none⟩ ∧ b < B ∧ ∀ j, j < xs.length → w.cell? ⟨b, off + j, none⟩ = some (.float .f64 (xs[j]?.getD 0)))

theorem FlR.lt {B : Nat} {w : World} {A : Option Addr} {xs : List Nat} (h : FlR B w A xs) (j : Nat) : xs[j]?.getD 0 < 18446744073709551616 := by
  by_cases hj : j < xs.length
  · rw [List.getElem?_eq_getElem hj]; exact h.1 _ (List.getElem_mem hj)
  · rw [List.getElem?_eq_none (by omega)]; decide
theorem FlR.below {B : Nat} {w w' : World} {A : Option Addr} {xs : List Nat} (h : FlR B w A xs) (hb : Below B w w') : FlR B w' A xs :=
  ⟨h.1, fun hl => by
    obtain ⟨b, off, e, hB, hc⟩ := h.2 hl
    exact ⟨b, off, e, hB, fun j hj => (hb.cell (p := ⟨b, off + j, none⟩) hB).trans (hc j hj)⟩⟩
theorem FlR.mono {B B' : Nat} {w : World} {A : Option Addr} {xs : List Nat} (h : FlR B w A xs) (hb : B ≤ B') : FlR B' w A xs :=
  ⟨h.1, fun hl => by
    obtain ⟨b, off, e, hB, hc⟩ := h.2 hl
    exact ⟨b, off, e, by omega, hc⟩⟩
theorem FlR.nil (B : Nat) (w : World) (A : Option Addr) : FlR B w A [] := ⟨fun _ h => absurd h (List.not_mem_nil), fun h => absurd h (by decide)⟩

/-- An argument that is a slice of floats. -/
structure SlArg (W : World) (A : Option Addr) (xs : List Nat) (c : Nat) : Prop where
  reads : FlR W.heap.size W A xs
  cap : xs.length ≤ c
  room : c ≤ 9223372036854775807

/-- A factor's value. -/
def facV (C : Int) (A : Option Addr) (n c : Nat) (R T : Int) : Value := .agg #[.int .i64 C, .slice A n c, .int .i64 R, .int .i64 T]

/-- An argument that is a factor. -/
structure FacArg (W : World) (C : Int) (A : Option Addr) (xs : List Nat) (c : Nat) (R T : Int) : Prop where
  tri : SlArg W A xs c
  cols : -9223372036854775808 ≤ C ∧ C ≤ 9223372036854775807
  rows : -9223372036854775808 ≤ R ∧ R ≤ 9223372036854775807
  turns : -9223372036854775808 ≤ T ∧ T ≤ 9223372036854775807

section
variable {H : Type} {enc : TypeId × Value → H} {W : World}

/-- The bits of the float at an address. -/
def bitsAt (w : World) (a : Addr) : Nat := match w.cell? a with
  | some (.float _ b) => b
  | _ => 0

theorem float_cell {w : World} {a : Addr} {fuel : Nat} {cs : List Value} {x : DataW H × List MemPlace} (hc : w.cells? 0 a 1 = some cs)
    (h : DataW.trod enc Try.prog w 0 (fun _ => true) true fuel 29 cs = some x) : ∃ b, w.cell? a = some (.float .f64 b) ∧ b < 18446744073709551616 := by
  obtain ⟨_, hcl, hat⟩ := World.cells?_some hc
  obtain ⟨v, rfl⟩ : ∃ v, cs = [v] := by
    match cs, hcl with
    | [v], _ => exact ⟨v, rfl⟩
  have h0 := hat 0 (by decide)
  have h1 : w.cell? a = some v := by simpa [Addr.add] using h0
  cases fuel with
  | zero => simp [DataW.trod] at h
  | succ n =>
    simp only [DataW.trod, Try.underlying29] at h
    cases v <;> simp at h
    rename_i k b
    obtain ⟨⟨rfl, hw⟩, _⟩ := h
    exact ⟨b, h1, by simpa [Lit.wf] using hw⟩

theorem floats_of {fuel : Nat} {cs : List Value} {x : DataW H × List MemPlace} (h : DataW.trod enc Try.prog W 0 (fun _ => true) true fuel 22 cs = some x) (hlt : ∀ q ∈ x.2, q.block < W.heap.size) :
    ∃ (A : Option Addr) (xs : List Nat) (c : Nat), cs = [.slice A xs.length c] ∧ SlArg W A xs c := by
  rcases open_slice Try.underlying22 h with ⟨hcs, _⟩ | ⟨a, len, cap, m, k, D, Pl, hcs, hb, hl, hm, hmm, hx, hi⟩
  · exact ⟨none, [], 0, hcs, FlR.nil _ _ _, Nat.le_refl _, by decide⟩
  · have hC : Try.prog.cellsOf 29 = 1 := by kernel_rfl
    rw [hC] at hi hx
    simp only [if_true] at hmm
    subst hmm
    have key : ∀ i, i < m → ∃ b, W.cell? (a.add i) = some (.float .f64 b) ∧ b < 18446744073709551616 := fun i hi0 => by
      obtain ⟨cs', hc, ht⟩ := hi i hi0
      rw [Nat.mul_one] at hc
      exact float_cell hc ht
    have hat : ∀ i, i < m → W.cell? (a.add i) = some (.float .f64 (bitsAt W (a.add i))) ∧ bitsAt W (a.add i) < 18446744073709551616 := fun i hi0 => by
      obtain ⟨b, h1, h2⟩ := key i hi0
      have e : bitsAt W (a.add i) = b := by unfold bitsAt; rw [h1]
      rw [e]; exact ⟨h1, h2⟩
    refine ⟨some a, (List.range len).map (fun i => bitsAt W (a.add i)), m, by simpa using hcs, ⟨fun y hy => ?_, fun hlen => ?_⟩, by simpa using hl, hm⟩
    · rw [List.mem_map] at hy
      obtain ⟨i, hi1, rfl⟩ := hy
      rw [List.mem_range] at hi1
      exact (hat i (by omega)).2
    · rw [List.length_map, List.length_range] at hlen
      obtain ⟨b, off, spot⟩ := a
      have h0 := (hat 0 (by omega)).1
      have hspot : spot = none := by
        have := World.cell?_spot h0
        simpa [Addr.add] using this
      subst hspot
      refine ⟨b, off, rfl, ?_, fun j hj => ?_⟩
      · have hq : MemPlace.cell b off ∈ x.2 := by
          rw [hx]
          refine List.mem_append.2 (.inl ?_)
          unfold MemPlace.row
          rw [List.mem_map]
          exact ⟨0, by simp; omega, rfl⟩
        exact hlt _ hq
      · rw [List.length_map, List.length_range] at hj
        have h1 := (hat j (by omega)).1
        have e : (((List.range len).map (fun i => bitsAt W (Addr.add ⟨b, off, none⟩ i)))[j]?).getD 0 = bitsAt W (Addr.add ⟨b, off, none⟩ j) := by
          rw [List.getElem?_map, List.getElem?_range hj]; rfl
        rw [e]
        have e2 : (⟨b, off + j, none⟩ : Addr) = Addr.add ⟨b, off, none⟩ j := addr_addM b off j
        rw [e2]; exact h1

set_option maxRecDepth 100000 in
theorem open_floats {v : Value} {d : DataW H} {p : List MemPlace} (hv : Value.okWide Try.prog W .any 0 22 v) (h : DataW.Trod enc Try.prog W 0 (fun _ => true) true 22 v d p) (hlt : ∀ q ∈ p, q.block < W.heap.size) :
    ∃ (A : Option Addr) (xs : List Nat) (c : Nat), v = .slice A xs.length c ∧ SlArg W A xs c := by
  obtain ⟨a0, len, cap, rfl⟩ := okWide_slice Try.underlying22 hv
  obtain ⟨fuel, hf⟩ := h
  obtain ⟨A, xs, c, hcs, hs⟩ := floats_of hf hlt
  simp [Value.cells] at hcs
  obtain ⟨rfl, rfl, rfl⟩ := hcs
  exact ⟨_, xs, _, rfl, hs⟩

set_option maxRecDepth 100000 in
theorem open_factor {v : Value} {d : DataW H} {p : List MemPlace} (hv : Value.okWide Try.prog W .any 0 24 v) (h : DataW.Trod enc Try.prog W 0 (fun _ => true) true 24 v d p) (hlt : ∀ q ∈ p, q.block < W.heap.size) :
    ∃ (C : Int) (A : Option Addr) (xs : List Nat) (c : Nat) (R T : Int), v = facV C A xs.length c R T ∧ FacArg W C A xs c R T := by
  obtain ⟨v0, v1, v2, v3, y0, y1, y2, y3, n, rfl, rfl, rfl, h0, h1, h2, h3⟩ := open_agg4 Try.underlying24 (by kernel_rfl) (by kernel_rfl) hv h
  obtain ⟨C, e0, _, w0⟩ := DataW.trod_int Try.underlying3 h0
  obtain ⟨R, e2, _, w2⟩ := DataW.trod_int Try.underlying3 h2
  obtain ⟨T, e3, _, w3⟩ := DataW.trod_int Try.underlying3 h3
  simp at e0 e2 e3
  subst e0 e2 e3
  obtain ⟨A, xs, c, e1, hs⟩ := floats_of h1 (fun q hq => hlt q (by simp [hq]))
  simp at e1
  subst e1
  simp only [Lit.wf, Bool.and_eq_true, decide_eq_true_eq] at w0 w2 w3
  exact ⟨C, A, xs, c, R, T, rfl, hs, w0, w2, w3⟩

end

end Go.Proofs.Ytigacobphgeeaaa

/- A block of memory that is known whole. -/
namespace Go.Proofs.Ytigacobphgeeaaa
open Go.RowKit Lev

/-- Block g holds the cells cs of type t. -/
def Bk (w : World) (g : Nat) (t : TypeId) (cs : Array Value) : Prop := w.heap[g]? = some (.cells cs t (0, 0))

theorem Bk.lt {w : World} {g : Nat} {t : TypeId} {cs : Array Value} (h : Bk w g t cs) : g < w.heap.size := by
  rcases Nat.lt_or_ge g w.heap.size with h1 | h1
  · exact h1
  · unfold Bk at h; rw [Array.getElem?_eq_none h1] at h; cases h
theorem Bk.cell {w : World} {g : Nat} {t : TypeId} {cs : Array Value} (h : Bk w g t cs) (i : Nat) : w.cell? ⟨g, i, none⟩ = cs[i]? := cell_of_row w g i cs t (0, 0) h
theorem Bk.frozen {w : World} {g : Nat} {t : TypeId} {cs : Array Value} (h : Bk w g t cs) (i : Nat) : w.frozen? ⟨g, i, none⟩ = false := by
  unfold Bk at h; simp [World.frozen?, h]
theorem Bk.below {w w' : World} {g B : Nat} {t : TypeId} {cs : Array Value} (h : Bk w g t cs) (hb : Below B w w') (hg : g < B) : Bk w' g t cs := (hb.block g hg).trans h
theorem Bk.alloc {w : World} {g : Nat} {t : TypeId} {cs : Array Value} (h : Bk w g t cs) (o : Obj) : Bk (w.alloc o) g t cs := (Below.heap_alloc w o g h.lt).trans h
theorem Bk.new (w : World) (t : TypeId) (cs : Array Value) : Bk (w.alloc (.cells cs t)) w.heap.size t cs := heap_alloc_new w _
theorem Bk.set {w : World} {g : Nat} {t : TypeId} {cs : Array Value} (h : Bk w g t cs) (i : Nat) (u : Value) : Bk (w.setCell ⟨g, i, none⟩ u) g t (cs.setIfInBounds i u) := by
  unfold Bk at h ⊢; simp [World.setCell, Array.getElem?_modify, h]
theorem Bk.other {w : World} {g : Nat} {t : TypeId} {cs : Array Value} (h : Bk w g t cs) {p : Addr} (hp : g ≠ p.block) (u : Value) : Bk (w.setCell p u) g t cs := (Below.heap_setCell w p u g hp).trans h

theorem SlArg.below {w w' : World} {A : Option Addr} {xs : List Nat} {c : Nat} (h : SlArg w A xs c) (hb : Below w.heap.size w w') : SlArg w' A xs c :=
  ⟨(h.reads.below hb).mono hb.size, h.cap, h.room⟩
theorem SlArg.setCell {w : World} {A : Option Addr} {xs : List Nat} {c : Nat} (h : SlArg w A xs c) {p : Addr} (hp : 0 < xs.length → ∀ a, A = some a → a.block ≠ p.block) (u : Value) : SlArg (w.setCell p u) A xs c := by
  refine ⟨⟨h.reads.1, fun hl => ?_⟩, h.cap, h.room⟩
  obtain ⟨b, off, rfl, hB, hc⟩ := h.reads.2 hl
  refine ⟨b, off, rfl, by simpa [World.setCell] using hB, fun j hj => ?_⟩
  rw [World.cell?_setCell_other w p ⟨b, off + j, none⟩ u (fun e => hp hl _ rfl (by rw [e]))]
  exact hc j hj

/-- A slice of floats that was made from block base on: its value, and what it holds. -/
def MadeF (base : Nat) (w : World) (v : Value) (xs : List Nat) : Prop := ∃ (A : Option Addr) (c : Nat), v = .slice A xs.length c ∧ SlArg w A xs c ∧ ∀ a, A = some a → base ≤ a.block

theorem own_from {w : World} {base : Nat} {e : TypeId} {v : Value} {n : Nat} {ys : List Value} (h : w.ownsRow base e 1 v n ys) : ∀ g, v.ownBlock = some g → base ≤ g := by
  rcases h.2 with ⟨rfl, _⟩ | ⟨g', cap, cur, rfl, hb, _⟩
  · intro g hg; simp [Value.ownBlock] at hg
  · intro g hg
    have : g' = g := by simpa [Value.ownBlock] using hg
    omega

theorem made_of_own {w : World} {base : Nat} {e : TypeId} {v : Value} {ys : List Nat} (h : w.ownsRow base e 1 v ys.length (ys.map (Value.float .f64))) (hy : ∀ y ∈ ys, y < 18446744073709551616) : MadeF base w v ys := by
  have h2 := h.2
  rcases h2 with ⟨rfl, h0⟩ | ⟨g, cap, cur, rfl, hb, hg, hn, hc, _, _⟩
  · have : ys = [] := List.eq_nil_of_length_eq_zero h0
    subst this
    exact ⟨none, 0, rfl, ⟨FlR.nil _ _ _, Nat.le_refl _, by decide⟩, fun a ha => by cases ha⟩
  · refine ⟨some ⟨g, 0, none⟩, cap, rfl, ⟨⟨hy, fun _ => ⟨g, 0, rfl, ?_, fun j hj => ?_⟩⟩, hn, hc⟩, fun a ha => by cases ha; exact hb⟩
    · rcases Nat.lt_or_ge g w.heap.size with hlt | hge
      · exact hlt
      · rw [Array.getElem?_eq_none hge] at hg; cases hg
    · have h3 := h.cells (g := g) rfl j (Value.float .f64 (ys[j]?.getD 0)) (by rw [List.getElem?_map, List.getElem?_eq_getElem hj]; rfl)
      have e2 : (⟨g, 0, none⟩ : Addr).add j = ⟨g, 0 + j, none⟩ := by
        unfold Addr.add; split
        · subst_vars; rfl
        · rfl
      rw [e2] at h3; exact h3

/-- A factor as a result of a call that began with 'base' blocks and a factor of address A: it lies there, or is new. -/
def FacB (base : Nat) (A : Option Addr) (w : World) (v : Value) (f : Fct) : Prop :=
  ∃ (A2 : Option Addr) (c2 : Nat), v = facV f.C A2 f.xs.length c2 f.R f.T ∧ SlArg w A2 f.xs c2 ∧ (A2 = A ∨ ∀ a, A2 = some a → base ≤ a.block)

def zeroFac : Value := .agg #[.int .i64 0, .slice none 0 0, .int .i64 0, .int .i64 0]

theorem facB_zero (base : Nat) (A : Option Addr) (w : World) : FacB base A w zeroFac Fct.zero := ⟨none, 0, rfl, ⟨FlR.nil _ _ _, Nat.le_refl _, by decide⟩, .inr (fun a ha => by cases ha)⟩

/-- Four cells are stored into a factor's box. -/
def stored4 (w : World) (g : Nat) (v0 v1 v2 v3 : Value) : World := (((w.setCell ⟨g, 0, none⟩ v0).setCell ⟨g, 1, none⟩ v1).setCell ⟨g, 2, none⟩ v2).setCell ⟨g, 3, none⟩ v3

theorem fac_box {w : World} {g : Nat} {t : TypeId} {u0 u1 u2 u3 : Value} (h : Bk w g t #[u0, u1, u2, u3]) (v0 v1 v2 v3 : Value) :
    Bk (stored4 w g v0 v1 v2 v3) g t #[v0, v1, v2, v3] ∧ (∀ B a, Below B a w → B ≤ g → Below B a (stored4 w g v0 v1 v2 v3)) ∧
    (∀ (A : Option Addr) (xs : List Nat) (c : Nat), SlArg w A xs c → (0 < xs.length → ∀ a, A = some a → a.block ≠ g) → SlArg (stored4 w g v0 v1 v2 v3) A xs c) := by
  unfold stored4
  refine ⟨by simpa using (((h.set 0 v0).set 1 v1).set 2 v2).set 3 v3, fun B a hb hg => ?_, fun A xs c hs hne => ?_⟩
  · exact (((hb.setCell (p := ⟨g, 0, none⟩) hg v0).setCell (p := ⟨g, 1, none⟩) hg v1).setCell (p := ⟨g, 2, none⟩) hg v2).setCell (p := ⟨g, 3, none⟩) hg v3
  · exact (((hs.setCell (p := ⟨g, 0, none⟩) hne v0).setCell (p := ⟨g, 1, none⟩) hne v1).setCell (p := ⟨g, 2, none⟩) hne v2).setCell (p := ⟨g, 3, none⟩) hne v3

end Go.Proofs.Ytigacobphgeeaaa

/- Small words for walks: a world gets a name, boxes of a call's own. -/
namespace Go.Proofs.Ytigacobphgeeaaa
open Go.RowKit Lev

theorem named {P : Program} {f : FuncId} {args : Array Value} {w : World} {Q : Ending → World → Prop} (h : ∀ W, W = w → Calls P f args W Q) : Calls P f args w Q := h w rfl

theorem Bk.c1 {w : World} {g : Nat} {t : TypeId} {v0 : Value} (h : Bk w g t #[v0]) : w.cell? ⟨g, 0, none⟩ = some v0 ∧ w.frozen? ⟨g, 0, none⟩ = false := ⟨h.cell 0, h.frozen 0⟩
theorem Bk.c4 {w : World} {g : Nat} {t : TypeId} {v0 v1 v2 v3 : Value} (h : Bk w g t #[v0, v1, v2, v3]) : w.cell? ⟨g, 0, none⟩ = some v0 ∧ w.cell? ⟨g, 1, none⟩ = some v1 ∧ w.cell? ⟨g, 2, none⟩ = some v2 ∧ w.cell? ⟨g, 3, none⟩ = some v3 :=
  ⟨h.cell 0, h.cell 1, h.cell 2, h.cell 3⟩
theorem Bk.f4 {w : World} {g : Nat} {t : TypeId} {v0 v1 v2 v3 : Value} (h : Bk w g t #[v0, v1, v2, v3]) : w.frozen? ⟨g, 0, none⟩ = false ∧ w.frozen? ⟨g, 1, none⟩ = false ∧ w.frozen? ⟨g, 2, none⟩ = false ∧ w.frozen? ⟨g, 3, none⟩ = false :=
  ⟨h.frozen 0, h.frozen 1, h.frozen 2, h.frozen 3⟩
theorem Bk.drewN {w : World} {g : Nat} {t : TypeId} {cs : Array Value} (h : Bk w g t cs) (n : Nat) : Bk (w.drewN n) g t cs := h
theorem SlArg.drewN {w : World} {A : Option Addr} {xs : List Nat} {c : Nat} (h : SlArg w A xs c) (n : Nat) : SlArg (w.drewN n) A xs c := h.below ⟨rfl, rfl, rfl, Nat.le_refl _, fun _ _ => rfl⟩
theorem Bk.set4 {w : World} {g : Nat} {t : TypeId} {v0 v1 v2 v3 : Value} (h : Bk w g t #[v0, v1, v2, v3]) (u : Value) :
    Bk (w.setCell ⟨g, 0, none⟩ u) g t #[u, v1, v2, v3] ∧ Bk (w.setCell ⟨g, 1, none⟩ u) g t #[v0, u, v2, v3] ∧ Bk (w.setCell ⟨g, 2, none⟩ u) g t #[v0, v1, u, v3] ∧ Bk (w.setCell ⟨g, 3, none⟩ u) g t #[v0, v1, v2, u] :=
  ⟨by simpa using h.set 0 u, by simpa using h.set 1 u, by simpa using h.set 2 u, by simpa using h.set 3 u⟩
theorem Bk.set1 {w : World} {g : Nat} {t : TypeId} {v0 : Value} (h : Bk w g t #[v0]) (u : Value) : Bk (w.setCell ⟨g, 0, none⟩ u) g t #[u] := by simpa using h.set 0 u

theorem boxes1 {w W : World} {t : TypeId} {cs : Array Value} (h : W = w.alloc (.cells cs t)) : Bk W w.heap.size t cs ∧ Below w.heap.size w W ∧ w.heap.size + 1 ≤ W.heap.size := by
  subst h
  exact ⟨Bk.new _ _ _, (Below.refl _ _).alloc (Nat.le_refl _) _, by simp⟩
theorem boxes2 {w W : World} {t t' : TypeId} {cs cs' : Array Value} (h : W = (w.alloc (.cells cs t)).alloc (.cells cs' t')) : Bk W w.heap.size t cs ∧ Bk W (w.heap.size + 1) t' cs' ∧ Below w.heap.size w W ∧ w.heap.size + 2 ≤ W.heap.size := by
  subst h
  refine ⟨(Bk.new _ _ _).alloc _, ?_, ((Below.refl _ _).alloc (Nat.le_refl _) _).alloc (by simp) _, by simp⟩
  have := Bk.new (w.alloc (.cells cs t)) t' cs'
  rwa [World.size_alloc] at this
theorem boxes3 {w W : World} {t t' t2 : TypeId} {cs cs' cs2 : Array Value} (h : W = ((w.alloc (.cells cs t)).alloc (.cells cs' t')).alloc (.cells cs2 t2)) :
    Bk W w.heap.size t cs ∧ Bk W (w.heap.size + 1) t' cs' ∧ Bk W (w.heap.size + 2) t2 cs2 ∧ Below w.heap.size w W ∧ w.heap.size + 3 ≤ W.heap.size := by
  subst h
  obtain ⟨h1, h2, h3, h4⟩ := boxes2 (w := w) (t := t) (t' := t') (cs := cs) (cs' := cs') rfl
  refine ⟨h1.alloc _, h2.alloc _, ?_, h3.alloc (by simp; omega) _, by simp⟩
  have := Bk.new ((w.alloc (.cells cs t)).alloc (.cells cs' t')) t2 cs2
  rwa [World.size_alloc, World.size_alloc] at this

/-- An address of an argument lies below what the call makes. -/
theorem SlArg.old {w : World} {A : Option Addr} {xs : List Nat} {c : Nat} (h : SlArg w A xs c) {g : Nat} (hg : w.heap.size ≤ g) : 0 < xs.length → ∀ a, A = some a → a.block ≠ g := fun hl a ha => by
  obtain ⟨ba, oa, hA, hba, _⟩ := h.reads.2 hl
  rw [hA] at ha; cases ha; show ba ≠ g; omega

theorem cells_zero (n : Nat) (v : Value) (j : Nat) (hj : j < n) : (madeCells #[v] n)[j]? = some v := by simp [madeCells, hj, Nat.mod_one]

/-- A slice of zeros that was made. -/
theorem SlArg.zeros {w : World} {g n : Nat} {t : TypeId} (h : Bk w g t (madeCells #[.float .f64 0] n)) (hn : n ≤ 9223372036854775807) : SlArg w (some ⟨g, 0, none⟩) (List.replicate n 0) n := by
  refine ⟨⟨fun x hx => by rw [List.mem_replicate] at hx; rw [hx.2]; decide, fun hl => ⟨g, 0, rfl, h.lt, fun j hj => ?_⟩⟩, by rw [List.length_replicate]; exact Nat.le_refl _, hn⟩
  rw [List.length_replicate] at hj
  rw [Nat.zero_add, h.cell, cells_zero n _ j hj, List.getElem?_replicate_of_lt hj]; rfl

/-- A call returns a factor that lies in a box, and a word. -/
theorem ret_fac2 {fn : Func} {R : Ending → World → Prop} {a : Act} {w : World} {i k : Tmp} {g : Nat} {v0 v1 v2 v3 x : Value} (hres : fn.results = #[.cell i 24, .tmp k]) (hi : a.tmps[i]?.getD undef = .pointer (some ⟨g, 0, none⟩))
    (hk : a.tmps[k]?.getD undef = x) (hb : Bk w g 24 #[v0, v1, v2, v3]) (hd : a.defers = []) (hR : R (.returned (.tuple #[.agg #[v0, v1, v2, v3], x])) w) : bodyPost Try.prog fn R .ret a w := by
  obtain ⟨s0, s1, s2, s3⟩ := hb.c4
  refine bodyPost_ret ?_ hd hR
  simp [results, hres, go_sem, hi, hk, s0, s1, s2, s3]
theorem ret_fac3 {fn : Func} {R : Ending → World → Prop} {a : Act} {w : World} {i k l : Tmp} {g : Nat} {v0 v1 v2 v3 x y : Value} (hres : fn.results = #[.cell i 24, .tmp k, .tmp l]) (hi : a.tmps[i]?.getD undef = .pointer (some ⟨g, 0, none⟩))
    (hk : a.tmps[k]?.getD undef = x) (hl : a.tmps[l]?.getD undef = y) (hb : Bk w g 24 #[v0, v1, v2, v3]) (hd : a.defers = []) (hR : R (.returned (.tuple #[.agg #[v0, v1, v2, v3], x, y])) w) : bodyPost Try.prog fn R .ret a w := by
  obtain ⟨s0, s1, s2, s3⟩ := hb.c4
  refine bodyPost_ret ?_ hd hR
  simp [results, hres, go_sem, hi, hk, hl, s0, s1, s2, s3]

/-- A row of the call's own is kept by a call. -/
theorem own_below {w w1 : World} {base : Nat} {e : TypeId} {size n : Nat} {v : Value} {xs : List Value} (h : w.ownsRow base e size v n xs) (hb : Below w.heap.size w w1) : w1.ownsRow base e size v n xs :=
  h.kept (row := none) ⟨hb.os, hb.tape, hb.output, hb.size, fun i hi _ => hb.block i hi⟩ (by cases v.ownBlock <;> simp)

/-- What an append that is not empty leaves: the new slice's block, and what lay below. -/
theorem app_new {W w2 : World} {base n : Nat} {t : TypeId} {v0 v' : Value} {ys : List Value} (hn : 0 < n) (hown : w2.ownsRow base t 1 v' n ys) (hgrow : W.grownBy w2 v0.ownBlock) (hlt : ∀ k, v0.ownBlock = some k → base ≤ k) :
    (∃ g cap cur, v' = .slice (some ⟨g, 0, none⟩) n cap ∧ base ≤ g ∧ w2.heap[g]? = some (.cells cur t (0, 0)) ∧ n ≤ cap ∧ cap ≤ 9223372036854775807 ∧ cur.size = cap ∧ cur.toList.take n = ys ∧ g < w2.heap.size) ∧
    (∀ q t' cs, q < base → Bk W q t' cs → Bk w2 q t' cs) ∧ (∀ B a, B ≤ base → B ≤ W.heap.size → Below B a W → Below B a w2) := by
  refine ⟨?_, fun q t' cs hq h => (hgrow.block q h.lt (fun e => by have := hlt q e.symm; omega)).trans h, fun B a hb hw h => h.grown hgrow hw (fun k hk => by have := hlt k hk; omega)⟩
  rcases hown.2 with ⟨_, h0⟩ | ⟨g, cap, cur, h1, h2, h3, h4, h5, h6, h7⟩
  · omega
  · exact ⟨g, cap, cur, h1, h2, h3, h4, h5, by rw [h6, Nat.mul_one], by rw [← h7, Nat.mul_one], Bk.lt h3⟩

/-- A float is stored. -/
theorem run_store_float (P : Program) (w : World) (a : Addr) (m : Mode) (k : FloatKind) (b : Nat) : (store a (.float k b) m).run P w = stored P w a (.float k b) m := run_store P w a _ m rfl

/-- What a walk knows of memory: what lay there is as it was; blocks of its own; slices of floats. -/
structure Keep (w W : World) (L : List (Nat × TypeId × Array Value)) (M : List (Option Addr × List Nat × Nat)) : Prop where
  below : Below w.heap.size w W
  bk : ∀ x ∈ L, Bk W x.1 x.2.1 x.2.2
  sl : ∀ y ∈ M, SlArg W y.1 y.2.1 y.2.2
theorem Keep.start (w : World) : Keep w w [] [] := ⟨Below.refl _ _, fun _ hx => absurd hx List.not_mem_nil, fun _ hx => absurd hx List.not_mem_nil⟩
theorem Keep.call {w W W' : World} {L M} (h : Keep w W L M) (hb : Below W.heap.size W W') : Keep w W' L M :=
  ⟨h.below.trans (hb.mono h.below.size), fun x hx => (h.bk x hx).below hb (h.bk x hx).lt, fun y hy => (h.sl y hy).below hb⟩
theorem Keep.alloc {w W : World} {L M} (h : Keep w W L M) (cs : Array Value) (t : TypeId) : Keep w (W.alloc (.cells cs t)) ((W.heap.size, t, cs) :: L) M := by
  have hb := (Below.refl W.heap.size W).alloc (Nat.le_refl _) (.cells cs t)
  have h2 := h.call hb
  refine ⟨h2.below, fun x hx => ?_, h2.sl⟩
  rcases List.mem_cons.1 hx with rfl | hx
  · exact Bk.new _ _ _
  · exact h2.bk x hx
theorem Keep.more {w W : World} {L M} (h : Keep w W L M) {A : Option Addr} {xs : List Nat} {c : Nat} (hs : SlArg W A xs c) : Keep w W L ((A, xs, c) :: M) :=
  ⟨h.below, h.bk, fun y hy => by
    rcases List.mem_cons.1 hy with rfl | hy
    · exact hs
    · exact h.sl y hy⟩
theorem Keep.known {w W : World} {L M} (h : Keep w W L M) {g : Nat} {t : TypeId} {cs : Array Value} (hs : Bk W g t cs) : Keep w W ((g, t, cs) :: L) M :=
  ⟨h.below, fun y hy => by
    rcases List.mem_cons.1 hy with rfl | hy
    · exact hs
    · exact h.bk y hy, h.sl⟩
theorem Keep.drewN {w W : World} {L M} (h : Keep w W L M) (n : Nat) : Keep w (W.drewN n) L M := h.call ⟨rfl, rfl, rfl, Nat.le_refl _, fun _ _ => rfl⟩
theorem Keep.box {w W : World} {L M} (h : Keep w W L M) {g : Nat} {t : TypeId} {cs : Array Value} (hx : (g, t, cs) ∈ L) : Bk W g t cs := h.bk _ hx
theorem Keep.arg {w W : World} {L M} (h : Keep w W L M) {A : Option Addr} {xs : List Nat} {c : Nat} (hx : (A, xs, c) ∈ M) : SlArg W A xs c := h.sl _ hx

theorem Below.chain {w W W' : World} (h : Below w.heap.size w W) (hb : Below W.heap.size W W') : Below w.heap.size w W' := h.trans (hb.mono h.size)

theorem Below.ofEq {B : Nat} {w w' : World} (h : w' = w) : Below B w w' := by subst h; exact Below.refl _ _

end Go.Proofs.Ytigacobphgeeaaa

/- Arguments that are arrays of two or three numbers. -/
namespace Go.Proofs.Ytigacobphgeeaaa
open Go.RowKit Go.ChangeShapes Go.WideShapes Go.Joins Go.Deep Lev

section
variable {H : Type} {enc : TypeId × Value → H} {W : World}

theorem list_two {α : Type} : ∀ (l : List α), l.length = 2 → ∃ a b, l = [a, b]
  | [a, b], _ => ⟨a, b, rfl⟩
theorem list_three {α : Type} : ∀ (l : List α), l.length = 3 → ∃ a b c, l = [a, b, c]
  | [a, b, c], _ => ⟨a, b, c, rfl⟩

theorem trod_float1 {m : Nat} {c : Value} {x : DataW H × List MemPlace} (h : DataW.trod enc Try.prog W 0 (fun _ => true) true m 29 [c] = some x) : ∃ b, c = .float .f64 b ∧ b < 18446744073709551616 := by
  cases m with
  | zero => simp [DataW.trod] at h
  | succ n =>
    simp only [DataW.trod, Try.underlying29] at h
    cases c <;> simp at h
    rename_i k b
    obtain ⟨⟨rfl, hw⟩, _⟩ := h
    exact ⟨b, rfl, by simpa [Lit.wf] using hw⟩

theorem open_arr {P : Program} {t e : TypeId} {n : Nat} (hu : P.underlying t = some (.array n e)) (he : P.cellsOf e = 1) {r : Reach} {b0 : Nat} {base : Nat} {spare : Nat → Bool} {held : Bool} {v : Value} {d : DataW H} {p : List MemPlace}
    (hv : Value.okWide P W r b0 t v) (h : DataW.Trod enc P W base spare held t v d p) :
    ∃ (cs : List Value) (m : Nat), v = .agg cs.toArray ∧ cs.length = P.cellsOf t ∧ ∀ i, i < n → ∃ x, DataW.trod enc P W base spare held m e ((cs.drop i).take 1) = some x := by
  simp only [Value.okWide, hu] at hv
  obtain ⟨cs, rfl, hsz, _⟩ := hv
  obtain ⟨fuel, hf⟩ := h
  have hf' : DataW.trod enc P W base spare held fuel t cs.toList = some (d, p) := by simpa [Value.cells] using hf
  obtain ⟨xs, m, _, _, _, hl, hel⟩ := DataW.trod_array hu hf'
  refine ⟨cs.toList, m, by simp, by simpa using hsz, fun i hi => ?_⟩
  have := hel i hi
  rw [he, Nat.mul_one] at this
  exact ⟨xs[i]'(by omega), by rw [this, List.getElem?_eq_getElem]⟩

end

end Go.Proofs.Ytigacobphgeeaaa
