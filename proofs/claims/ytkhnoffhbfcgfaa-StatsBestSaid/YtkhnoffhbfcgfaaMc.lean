/- Small words for walks: a world gets a name, boxes of a call's own. -/
import Derived.Test.YtkhnoffhbfcgfaaMb
import Derived.Deep.OwnRows
import Derived.Deep.QuietTactic
import Derived.BigQuiet
import Derived.Laws.Entries
namespace Go.Proofs.Ytkhnoffhbfcgfaa
open Go.RowKit Lev

theorem named {P : Program} {f : FuncId} {args : Array Value} {w : World} {Q : Ending → World → Prop} (h : ∀ W, W = w → Calls P f args W Q) : Calls P f args w Q := h w rfl

theorem Bk.c1 {w : World} {g : Nat} {t : TypeId} {v0 : Value} (h : Bk w g t #[v0]) : w.cell? ⟨g, 0, none⟩ = some v0 ∧ w.frozen? ⟨g, 0, none⟩ = false := ⟨h.cell 0, h.frozen 0⟩
theorem Bk.c4 {w : World} {g : Nat} {t : TypeId} {v0 v1 v2 v3 : Value} (h : Bk w g t #[v0, v1, v2, v3]) : w.cell? ⟨g, 0, none⟩ = some v0 ∧ w.cell? ⟨g, 1, none⟩ = some v1 ∧ w.cell? ⟨g, 2, none⟩ = some v2 ∧ w.cell? ⟨g, 3, none⟩ = some v3 :=
  ⟨h.cell 0, h.cell 1, h.cell 2, h.cell 3⟩
theorem Bk.f4 {w : World} {g : Nat} {t : TypeId} {v0 v1 v2 v3 : Value} (h : Bk w g t #[v0, v1, v2, v3]) : w.frozen? ⟨g, 0, none⟩ = false ∧ w.frozen? ⟨g, 1, none⟩ = false ∧ w.frozen? ⟨g, 2, none⟩ = false ∧ w.frozen? ⟨g, 3, none⟩ = false :=
  ⟨h.frozen 0, h.frozen 1, h.frozen 2, h.frozen 3⟩
theorem Bk.drewN {w : World} {g : Nat} {t : TypeId} {cs : Array Value} (h : Bk w g t cs) (n : Nat) : Bk (w.drewN n) g t cs := h
theorem SlArg.drewN {w : World} {A : Option Addr} {xs : List Nat} {c : Nat} (h : SlArg w A xs c) (n : Nat) : SlArg (w.drewN n) A xs c := h.below ⟨rfl, rfl, rfl, Nat.le_refl _, fun _ _ => rfl⟩
theorem Bk.set4 {w : World} {g : Nat} {t : TypeId} {v0 v1 v2 v3 : Value} (h : Bk w g t #[v0, v1, v2, v3]) (u : Value) :
    Bk (w.setCell ⟨g, 0, none⟩ u) g t #[u, v1, v2, v3] ∧ Bk (w.setCell ⟨g, 1, none⟩ u) g t #[v0, u, v2, v3] ∧ Bk (w.setCell ⟨g, 2, none⟩ u) g t #[v0, v1, u, v3] ∧ Bk (w.setCell ⟨g, 3, none⟩ u) g t #[v0, v1, v2, u] :=
  ⟨by simpa using h.set 0 u, by simpa using h.set 1 u, by simpa using h.set 2 u, by simpa using h.set 3 u⟩
theorem Bk.set1 {w : World} {g : Nat} {t : TypeId} {v0 : Value} (h : Bk w g t #[v0]) (u : Value) : Bk (w.setCell ⟨g, 0, none⟩ u) g t #[u] := by simpa using h.set 0 u

theorem boxes1 {w W : World} {t : TypeId} {cs : Array Value} (h : W = w.alloc (.cells cs t)) : Bk W w.heap.size t cs ∧ Below w.heap.size w W ∧ w.heap.size + 1 ≤ W.heap.size := by
  subst h
  exact ⟨Bk.new _ _ _, (Below.refl _ _).alloc (Nat.le_refl _) _, by simp⟩
theorem boxes2 {w W : World} {t t' : TypeId} {cs cs' : Array Value} (h : W = (w.alloc (.cells cs t)).alloc (.cells cs' t')) : Bk W w.heap.size t cs ∧ Bk W (w.heap.size + 1) t' cs' ∧ Below w.heap.size w W ∧ w.heap.size + 2 ≤ W.heap.size := by
  subst h
  refine ⟨(Bk.new _ _ _).alloc _, ?_, ((Below.refl _ _).alloc (Nat.le_refl _) _).alloc (by simp) _, by simp⟩
  have := Bk.new (w.alloc (.cells cs t)) t' cs'
  rwa [World.size_alloc] at this
theorem boxes3 {w W : World} {t t' t2 : TypeId} {cs cs' cs2 : Array Value} (h : W = ((w.alloc (.cells cs t)).alloc (.cells cs' t')).alloc (.cells cs2 t2)) :
    Bk W w.heap.size t cs ∧ Bk W (w.heap.size + 1) t' cs' ∧ Bk W (w.heap.size + 2) t2 cs2 ∧ Below w.heap.size w W ∧ w.heap.size + 3 ≤ W.heap.size := by
  subst h
  obtain ⟨h1, h2, h3, h4⟩ := boxes2 (w := w) (t := t) (t' := t') (cs := cs) (cs' := cs') rfl
  refine ⟨h1.alloc _, h2.alloc _, ?_, h3.alloc (by simp; omega) _, by simp⟩
  have := Bk.new ((w.alloc (.cells cs t)).alloc (.cells cs' t')) t2 cs2
  rwa [World.size_alloc, World.size_alloc] at this

/-- An address of an argument lies below what the call makes. -/
theorem SlArg.old {w : World} {A : Option Addr} {xs : List Nat} {c : Nat} (h : SlArg w A xs c) {g : Nat} (hg : w.heap.size ≤ g) : 0 < xs.length → ∀ a, A = some a → a.block ≠ g := fun hl a ha => by
  obtain ⟨ba, oa, hA, hba, _⟩ := h.reads.2 hl
  rw [hA] at ha; cases ha; show ba ≠ g; omega

theorem cells_zero (n : Nat) (v : Value) (j : Nat) (hj : j < n) : (madeCells #[v] n)[j]? = some v := by simp [madeCells, hj, Nat.mod_one]

/-- A slice of zeros that was made. -/
theorem SlArg.zeros {w : World} {g n : Nat} {t : TypeId} (h : Bk w g t (madeCells #[.float .f64 0] n)) (hn : n ≤ 9223372036854775807) : SlArg w (some ⟨g, 0, none⟩) (List.replicate n 0) n := by
  refine ⟨⟨fun x hx => by rw [List.mem_replicate] at hx; rw [hx.2]; decide, fun hl => ⟨g, 0, rfl, h.lt, fun j hj => ?_⟩⟩, by rw [List.length_replicate]; exact Nat.le_refl _, hn⟩
  rw [List.length_replicate] at hj
  rw [Nat.zero_add, h.cell, cells_zero n _ j hj, List.getElem?_replicate_of_lt hj]; rfl

/-- A call returns a factor that lies in a box, and a word. -/
theorem ret_fac2 {fn : Func} {R : Ending → World → Prop} {a : Act} {w : World} {i k : Tmp} {g : Nat} {v0 v1 v2 v3 x : Value} (hres : fn.results = #[.cell i 24, .tmp k]) (hi : a.tmps[i]?.getD undef = .pointer (some ⟨g, 0, none⟩))
    (hk : a.tmps[k]?.getD undef = x) (hb : Bk w g 24 #[v0, v1, v2, v3]) (hd : a.defers = []) (hR : R (.returned (.tuple #[.agg #[v0, v1, v2, v3], x])) w) : bodyPost Try.prog fn R .ret a w := by
  obtain ⟨s0, s1, s2, s3⟩ := hb.c4
  refine bodyPost_ret ?_ hd hR
  simp [results, hres, go_sem, hi, hk, s0, s1, s2, s3]
theorem ret_fac3 {fn : Func} {R : Ending → World → Prop} {a : Act} {w : World} {i k l : Tmp} {g : Nat} {v0 v1 v2 v3 x y : Value} (hres : fn.results = #[.cell i 24, .tmp k, .tmp l]) (hi : a.tmps[i]?.getD undef = .pointer (some ⟨g, 0, none⟩))
    (hk : a.tmps[k]?.getD undef = x) (hl : a.tmps[l]?.getD undef = y) (hb : Bk w g 24 #[v0, v1, v2, v3]) (hd : a.defers = []) (hR : R (.returned (.tuple #[.agg #[v0, v1, v2, v3], x, y])) w) : bodyPost Try.prog fn R .ret a w := by
  obtain ⟨s0, s1, s2, s3⟩ := hb.c4
  refine bodyPost_ret ?_ hd hR
  simp [results, hres, go_sem, hi, hk, hl, s0, s1, s2, s3]

/-- A row of the call's own is kept by a call. -/
theorem own_below {w w1 : World} {base : Nat} {e : TypeId} {size n : Nat} {v : Value} {xs : List Value} (h : w.ownsRow base e size v n xs) (hb : Below w.heap.size w w1) : w1.ownsRow base e size v n xs :=
  h.kept (row := none) ⟨hb.os, hb.tape, hb.output, hb.size, fun i hi _ => hb.block i hi⟩ (by cases v.ownBlock <;> simp)

/-- What an append that is not empty leaves: the new slice's block, and what lay below. -/
theorem app_new {W w2 : World} {base n : Nat} {t : TypeId} {v0 v' : Value} {ys : List Value} (hn : 0 < n) (hown : w2.ownsRow base t 1 v' n ys) (hgrow : W.grownBy w2 v0.ownBlock) (hlt : ∀ k, v0.ownBlock = some k → base ≤ k) :
    (∃ g cap cur, v' = .slice (some ⟨g, 0, none⟩) n cap ∧ base ≤ g ∧ w2.heap[g]? = some (.cells cur t (0, 0)) ∧ n ≤ cap ∧ cap ≤ 9223372036854775807 ∧ cur.size = cap ∧ cur.toList.take n = ys ∧ g < w2.heap.size) ∧
    (∀ q t' cs, q < base → Bk W q t' cs → Bk w2 q t' cs) ∧ (∀ B a, B ≤ base → B ≤ W.heap.size → Below B a W → Below B a w2) := by
  refine ⟨?_, fun q t' cs hq h => (hgrow.block q h.lt (fun e => by have := hlt q e.symm; omega)).trans h, fun B a hb hw h => h.grown hgrow hw (fun k hk => by have := hlt k hk; omega)⟩
  rcases hown.2 with ⟨_, h0⟩ | ⟨g, cap, cur, h1, h2, h3, h4, h5, h6, h7⟩
  · omega
  · exact ⟨g, cap, cur, h1, h2, h3, h4, h5, by rw [h6, Nat.mul_one], by rw [← h7, Nat.mul_one], Bk.lt h3⟩

/-- A float is stored. -/
theorem run_store_float (P : Program) (w : World) (a : Addr) (m : Mode) (k : FloatKind) (b : Nat) : (store a (.float k b) m).run P w = stored P w a (.float k b) m := run_store P w a _ m rfl

/-- What a walk knows of memory: what lay there is as it was; blocks of its own; slices of floats. -/
structure Keep (w W : World) (L : List (Nat × TypeId × Array Value)) (M : List (Option Addr × List Nat × Nat)) : Prop where
  below : Below w.heap.size w W
  bk : ∀ x ∈ L, Bk W x.1 x.2.1 x.2.2
  sl : ∀ y ∈ M, SlArg W y.1 y.2.1 y.2.2
theorem Keep.start (w : World) : Keep w w [] [] := ⟨Below.refl _ _, fun _ hx => absurd hx List.not_mem_nil, fun _ hx => absurd hx List.not_mem_nil⟩
theorem Keep.call {w W W' : World} {L M} (h : Keep w W L M) (hb : Below W.heap.size W W') : Keep w W' L M :=
  ⟨h.below.trans (hb.mono h.below.size), fun x hx => (h.bk x hx).below hb (h.bk x hx).lt, fun y hy => (h.sl y hy).below hb⟩
theorem Keep.alloc {w W : World} {L M} (h : Keep w W L M) (cs : Array Value) (t : TypeId) : Keep w (W.alloc (.cells cs t)) ((W.heap.size, t, cs) :: L) M := by
  have hb := (Below.refl W.heap.size W).alloc (Nat.le_refl _) (.cells cs t)
  have h2 := h.call hb
  refine ⟨h2.below, fun x hx => ?_, h2.sl⟩
  rcases List.mem_cons.1 hx with rfl | hx
  · exact Bk.new _ _ _
  · exact h2.bk x hx
theorem Keep.more {w W : World} {L M} (h : Keep w W L M) {A : Option Addr} {xs : List Nat} {c : Nat} (hs : SlArg W A xs c) : Keep w W L ((A, xs, c) :: M) :=
  ⟨h.below, h.bk, fun y hy => by
    rcases List.mem_cons.1 hy with rfl | hy
    · exact hs
    · exact h.sl y hy⟩
theorem Keep.known {w W : World} {L M} (h : Keep w W L M) {g : Nat} {t : TypeId} {cs : Array Value} (hs : Bk W g t cs) : Keep w W ((g, t, cs) :: L) M :=
  ⟨h.below, fun y hy => by
    rcases List.mem_cons.1 hy with rfl | hy
    · exact hs
    · exact h.bk y hy, h.sl⟩
theorem Keep.drewN {w W : World} {L M} (h : Keep w W L M) (n : Nat) : Keep w (W.drewN n) L M := h.call ⟨rfl, rfl, rfl, Nat.le_refl _, fun _ _ => rfl⟩
theorem Keep.box {w W : World} {L M} (h : Keep w W L M) {g : Nat} {t : TypeId} {cs : Array Value} (hx : (g, t, cs) ∈ L) : Bk W g t cs := h.bk _ hx
theorem Keep.arg {w W : World} {L M} (h : Keep w W L M) {A : Option Addr} {xs : List Nat} {c : Nat} (hx : (A, xs, c) ∈ M) : SlArg W A xs c := h.sl _ hx

theorem Below.chain {w W W' : World} (h : Below w.heap.size w W) (hb : Below W.heap.size W W') : Below w.heap.size w W' := h.trans (hb.mono h.size)

theorem Below.ofEq {B : Nat} {w w' : World} (h : w' = w) : Below B w w' := by subst h; exact Below.refl _ _

end Go.Proofs.Ytkhnoffhbfcgfaa
