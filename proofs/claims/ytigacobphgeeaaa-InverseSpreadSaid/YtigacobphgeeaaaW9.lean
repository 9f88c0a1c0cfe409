/- Plain texts, laid as one. -/
import Derived.Test.YtigacobphgeeaaaZ9
import Derived.Deep.AppendLies
import Derived.OneCell
import Derived.Deep.RegionLaw
import Derived.Test.YtigacobphgeeaaaC9
/- Memory: slices of dyads. -/
set_option linter.unusedVariables false
namespace Go.Proofs.Ytigacobphgeeaaa
open Go.RowKit Go.Shelf Lev

/-- A dyad with its digits' place. -/
abbrev DyE := Dy × Option Addr × Nat
def dyF (x : DyE) : List Value := [.bool x.1.neg, .slice x.2.1 (nd x.1.n).length x.2.2, .int .i64 x.1.e]
def flat : List DyE → List Value
  | [] => []
  | x :: l => dyF x ++ flat l
theorem flat_len : ∀ l : List DyE, (flat l).length = 3 * l.length
  | [] => rfl
  | x :: l => by
    show (dyF x ++ flat l).length = 3 * (l.length + 1)
    rw [List.length_append, flat_len l]; show 3 + _ = _; omega
theorem flat_append : ∀ (l m : List DyE), flat (l ++ m) = flat l ++ flat m
  | [], m => rfl
  | x :: l, m => by
    show dyF x ++ flat (l ++ m) = dyF x ++ flat l ++ flat m
    rw [flat_append l m, List.append_assoc]
theorem flat_snoc (l : List DyE) (x : DyE) : flat (l ++ [x]) = flat l ++ dyF x := by rw [flat_append]; show flat l ++ (dyF x ++ []) = _; rw [List.append_nil]
theorem flat_one : ∀ (l : List DyE), ∀ u ∈ flat l, u.oneCell' = true
  | [], u, h => absurd h List.not_mem_nil
  | x :: l, u, h => by
    rcases List.mem_append.1 h with h | h
    · unfold dyF at h
      rcases List.mem_cons.1 h with rfl | h
      · rfl
      · rcases List.mem_cons.1 h with rfl | h
        · rfl
        · rw [List.mem_singleton.1 h]; rfl
    · exact flat_one l u h
theorem flat_get : ∀ (l : List DyE) (j : Nat) (hj : j < l.length) (k : Nat), k < 3 → (flat l)[3 * j + k]? = (dyF l[j])[k]?
  | [], j, hj, _, _ => absurd hj (Nat.not_lt_zero _)
  | x :: l, 0, _, k, hk => by
    show (dyF x ++ flat l)[3 * 0 + k]? = (dyF x)[k]?
    rw [Nat.mul_zero, Nat.zero_add, List.getElem?_append_left (by show k < 3; exact hk)]
  | x :: l, j + 1, hj, k, hk => by
    show (dyF x ++ flat l)[3 * (j + 1) + k]? = _
    rw [List.getElem?_append_right (by show 3 ≤ _; omega), show 3 * (j + 1) + k - (dyF x).length = 3 * j + k from by show 3 * (j + 1) + k - 3 = _; omega]
    exact flat_get l j (by simpa using hj) k hk

/-- The slice of address A holds the dyads l. -/
structure DyL (W : World) (A : Option Addr) (l : List DyE) (c : Nat) : Prop where
  reads : 0 < l.length → ∃ b off, A = some ⟨b, off, none⟩ ∧ b < W.heap.size ∧ ∀ j, j < 3 * l.length → W.cell? ⟨b, off + j, none⟩ = (flat l)[j]?
  dy : ∀ x ∈ l, DyA W x.1 x.2.1 x.2.2
  cap : l.length ≤ c
  room : c ≤ 9223372036854775807
theorem DyL.below {w w' : World} {A : Option Addr} {l : List DyE} {c : Nat} (h : DyL w A l c) (hb : Below w.heap.size w w') : DyL w' A l c :=
  ⟨fun hl => by
    obtain ⟨b, off, e, hB, hc⟩ := h.reads hl
    exact ⟨b, off, e, Nat.lt_of_lt_of_le hB hb.size, fun j hj => (hb.cell (p := ⟨b, off + j, none⟩) hB).trans (hc j hj)⟩, fun x hx => (h.dy x hx).below hb, h.cap, h.room⟩
theorem DyL.nil (w : World) (A : Option Addr) {c : Nat} (h : c ≤ 9223372036854775807) : DyL w A [] c := ⟨fun h => absurd h (by decide), fun x hx => absurd hx List.not_mem_nil, Nat.zero_le _, h⟩
/-- The entry j: its three cells, and that it is a dyad. -/
theorem DyL.at {w : World} {b off : Nat} {l : List DyE} {c : Nat} (h : DyL w (some ⟨b, off, none⟩) l c) {j : Nat} (hj : j < l.length) :
    (w.cell? ⟨b, off + j * 3, none⟩ = some (.bool l[j].1.neg) ∧ w.cell? ⟨b, off + j * 3 + 1, none⟩ = some (.slice l[j].2.1 (nd l[j].1.n).length l[j].2.2) ∧ w.cell? ⟨b, off + j * 3 + 2, none⟩ = some (.int .i64 l[j].1.e)) ∧ DyA w l[j].1 l[j].2.1 l[j].2.2 := by
  obtain ⟨b', off', e, _, hc⟩ := h.reads (by omega)
  cases e
  rw [Nat.mul_comm j 3]
  refine ⟨⟨?_, ?_, ?_⟩, h.dy _ (List.getElem_mem hj)⟩
  · have := hc (3 * j + 0) (by omega); rw [flat_get l j hj 0 (by omega)] at this; exact this
  · have := hc (3 * j + 1) (by omega); rw [flat_get l j hj 1 (by omega)] at this; rw [Nat.add_assoc]; exact this
  · have := hc (3 * j + 2) (by omega); rw [flat_get l j hj 2 (by omega)] at this; rw [Nat.add_assoc]; exact this
theorem DyL.made {w : World} {g cap : Nat} {e : TypeId} {cur : Array Value} {l : List DyE} (hg : w.heap[g]? = some (.cells cur e (0, 0))) (hn : l.length ≤ cap) (hc : cap ≤ 9223372036854775807) (ht : cur.toList.take (3 * l.length) = flat l) (hd : ∀ x ∈ l, DyA w x.1 x.2.1 x.2.2) : DyL w (some ⟨g, 0, none⟩) l cap := by
  have hb : Bk w g e cur := hg
  refine ⟨fun _ => ⟨g, 0, rfl, hb.lt, fun j hj => ?_⟩, hd, hn, hc⟩
  rw [Nat.zero_add, hb.cell, ← ht]
  rw [List.getElem?_take_of_lt hj, Array.getElem?_toList]
theorem DyL.own {w : World} {base : Nat} {e : TypeId} {v : Value} {l : List DyE} (h : w.ownsRow base e 3 v l.length (flat l)) (hd : ∀ x ∈ l, DyA w x.1 x.2.1 x.2.2) : ∃ A c, v = .slice A l.length c ∧ DyL w A l c := by
  rcases h.2 with ⟨rfl, h0⟩ | ⟨g, cap, cur, rfl, hb, hg, hn, hc, _, ht⟩
  · obtain rfl := List.eq_nil_of_length_eq_zero h0
    exact ⟨none, 0, rfl, DyL.nil _ _ (by decide)⟩
  · exact ⟨_, _, rfl, DyL.made hg hn hc (by rw [Nat.mul_comm] at ht; exact ht) hd⟩
theorem own3_below {w w' : World} {base sz : Nat} {e : TypeId} {v : Value} {n : Nat} {xs : List Value} (h : w.ownsRow base e sz v n xs) (hb : Below w.heap.size w w') : w'.ownsRow base e sz v n xs := by
  refine ⟨h.1, ?_⟩
  rcases h.2 with h2 | ⟨g, cap, cur, h1, h2, h3, h4, h5, h6, h7⟩
  · exact .inl h2
  · refine .inr ⟨g, cap, cur, h1, h2, ?_, h4, h5, h6, h7⟩
    have hg : g < w.heap.size := by
      rcases Nat.lt_or_ge g w.heap.size with h | h
      · exact h
      · rw [Array.getElem?_eq_none h] at h3; cases h3
    rw [hb.block g hg]; exact h3
theorem own3_from {w : World} {base sz : Nat} {e : TypeId} {v : Value} {n : Nat} {ys : List Value} (h : w.ownsRow base e sz v n ys) : ∀ g, v.ownBlock = some g → base ≤ g := by
  rcases h.2 with ⟨rfl, _⟩ | ⟨g', cap, cur, rfl, hb, _⟩
  · intro g hg; simp [Value.ownBlock] at hg
  · intro g hg
    have : g' = g := by simpa [Value.ownBlock] using hg
    omega
theorem flat_zeros (n : Nat) : madeCells #[.bool false, .slice none 0 0, .int .i64 0] (3 * n) = (flat (List.replicate n (Dy.zero, none, 0))).toArray := by
  apply Array.ext
  · rw [size_madeCells, List.size_toArray, flat_len, List.length_replicate]
  · intro i h1 h2
    rw [size_madeCells] at h1
    have h3 : i / 3 < n := by omega
    have h4 : (flat (List.replicate n (Dy.zero, (none : Option Addr), 0)))[i]? = (dyF (Dy.zero, none, 0))[i % 3]? := by
      have := flat_get (List.replicate n (Dy.zero, none, 0)) (i / 3) (by rw [List.length_replicate]; exact h3) (i % 3) (by omega)
      rw [show 3 * (i / 3) + i % 3 = i from by omega, List.getElem_replicate] at this
      exact this
    have h5 : (madeCells #[.bool false, .slice none 0 0, .int .i64 0] (3 * n))[i]? = (dyF (Dy.zero, none, 0))[i % 3]? := by
      unfold madeCells
      rw [Array.getElem?_map, Array.getElem?_range, if_pos h1]
      show some (#[Value.bool false, .slice none 0 0, .int .i64 0][i % 3]!) = _
      have : i % 3 = 0 ∨ i % 3 = 1 ∨ i % 3 = 2 := by omega
      unfold dyF Dy.zero
      rw [nd_zero]
      rcases this with e | e | e <;> rw [e] <;> rfl
    have h6 : (madeCells #[.bool false, .slice none 0 0, .int .i64 0] (3 * n))[i]? = (flat (List.replicate n (Dy.zero, none, 0))).toArray[i]? := by
      rw [h5, List.getElem?_toArray, h4]
    rw [Array.getElem?_eq_getElem (by rw [size_madeCells]; exact h1), Array.getElem?_eq_getElem h2] at h6
    exact Option.some.inj h6
theorem DyL.zeros (w : World) (n : Nat) (hn : n ≤ 9223372036854775807) (t : TypeId) : DyL (w.alloc (.cells (madeCells #[.bool false, .slice none 0 0, .int .i64 0] (3 * n)) t)) (some ⟨w.heap.size, 0, none⟩) (List.replicate n (Dy.zero, none, 0)) n := by
  rw [flat_zeros]
  refine DyL.made (heap_alloc_new _ _) (by rw [List.length_replicate]; exact Nat.le_refl _) hn ?_ (fun x hx => by rw [List.mem_replicate] at hx; rw [hx.2]; exact DyA.zero _)
  rw [show (flat (List.replicate n (Dy.zero, (none : Option Addr), 0))).toArray.toList = flat (List.replicate n (Dy.zero, none, 0)) from rfl, List.length_replicate]
  exact List.take_of_length_le (by rw [flat_len, List.length_replicate]; exact Nat.le_refl _)
end Go.Proofs.Ytigacobphgeeaaa

/- Memory: a row of dyads under append. -/
set_option linter.unusedVariables false
namespace Go.Proofs.Ytigacobphgeeaaa
open Go.RowKit Go.Shelf Lev

theorem info_dy : (Try.prog.info? 38).map (fun i => (i.zero, i.size, i.bytes)) = some (some (.agg #[.bool false, .slice none 0 0, .int .i64 0]), 3, 40) := by kernel_rfl

/-- No digit of a number is this. -/
def NoW (u : Value) : Prop := ∀ x, u ≠ .int .u32 x
theorem NoW.dy (x : DyE) : ∀ u ∈ dyF x, NoW u := fun u h => by
  unfold dyF at h
  simp only [List.mem_cons, List.not_mem_nil, or_false] at h
  rcases h with rfl | rfl | rfl <;> intro x e <;> cases e
theorem NoW.zeros (n : Nat) : ∀ u ∈ (Builtin.zeroCells (Value.agg #[.bool false, .slice none 0 0, .int .i64 0]).cells n).toList, NoW u := fun u h => by
  unfold Builtin.zeroCells at h
  rw [Array.mem_toList_iff, Array.mem_map] at h
  obtain ⟨i, _, rfl⟩ := h
  have : i % (Value.agg #[.bool false, .slice none 0 0, .int .i64 0]).cells.size < 3 := Nat.mod_lt _ (by decide)
  generalize i % (Value.agg #[.bool false, .slice none 0 0, .int .i64 0]).cells.size = k at *
  have h3 : k = 0 ∨ k = 1 ∨ k = 2 := by omega
  rcases h3 with rfl | rfl | rfl <;> intro x e <;> cases e
def NoB (W : World) (g : Nat) : Prop := ∃ cs t, W.heap[g]? = some (.cells cs t (0, 0)) ∧ ∀ u ∈ cs.toList, NoW u
theorem NoB.cell {W : World} {g : Nat} (h : NoB W g) {j : Nat} {x : Int} : W.cell? ⟨g, j, none⟩ ≠ some (.int .u32 x) := fun e => by
  obtain ⟨cs, t, hg, hn⟩ := h
  rw [cell_of_row W g j cs t (0, 0) hg, ← Array.getElem?_toList] at e
  exact hn _ (List.mem_of_getElem? e) x rfl
theorem NoB.below {w w' : World} {g : Nat} (h : NoB w g) (hb : Below w.heap.size w w') : NoB w' g := by
  obtain ⟨cs, t, hg, hn⟩ := h
  exact ⟨cs, t, (hb.block g (Array.getElem?_eq_some_iff.1 hg).1).trans hg, hn⟩
theorem NatA.grown {w w' : World} {A : Option Addr} {ds : List Nat} {c : Nat} {row : Option Nat} (h : NatA w A ds c) (hg : w.grownBy w' row) (hn : ∀ g, row = some g → NoB w g) : NatA w' A ds c := by
  refine ⟨⟨fun hl => ?_, h.sl.cap, h.sl.room⟩, h.dig, h.len⟩
  obtain ⟨b, off, e, hb, hc⟩ := h.sl.reads hl
  have hl2 : 0 < ds.length := by rwa [nV_length] at hl
  have hne : some b ≠ row := fun e2 => by
    have h1 := hc 0 hl
    rw [nV_get hl2] at h1
    exact (hn b e2.symm).cell h1
  refine ⟨b, off, e, Nat.lt_of_lt_of_le hb hg.size, fun j hj => ?_⟩
  rw [World.cell?_of_block (w := w) (hg.block b hb hne)]
  exact hc j hj
theorem DyA.grown {w w' : World} {d : Dy} {A : Option Addr} {c : Nat} {row : Option Nat} (h : DyA w d A c) (hg : w.grownBy w' row) (hn : ∀ g, row = some g → NoB w g) : DyA w' d A c := ⟨h.ok, h.nat.grown hg hn, h.q⟩

/-- A row of dyads that the walk owns. -/
structure DyRow (W : World) (base : Nat) (v : Value) (o : List DyE) : Prop where
  own : W.ownsRow base 38 3 v o.length (flat o)
  no : ∀ g, v.ownBlock = some g → NoB W g
  dy : ∀ x ∈ o, DyA W x.1 x.2.1 x.2.2
theorem DyRow.nil (W : World) (base : Nat) : DyRow W base (.slice none 0 0) [] := ⟨World.ownsRow_nil _ _ _ _, fun g h => by simp [Value.ownBlock] at h, fun x hx => absurd hx List.not_mem_nil⟩
theorem DyRow.call {w w' : World} {base : Nat} {v : Value} {o : List DyE} (h : DyRow w base v o) (hb : Below w.heap.size w w') : DyRow w' base v o :=
  ⟨own3_below h.own hb, fun g hg => (h.no g hg).below hb, fun x hx => (h.dy x hx).below hb⟩
theorem DyRow.list {w : World} {base : Nat} {v : Value} {o : List DyE} (h : DyRow w base v o) : ∃ A c, v = .slice A o.length c ∧ DyL w A o c := DyL.own h.own h.dy

/-- One dyad is appended. -/
theorem run_append_dy (w : World) (t ty : TypeId) (ht : Try.prog.underlying t = some (.slice 38)) (base : Nat) (v : Value) (o : List DyE) (hr : DyRow w base v o) (B : Nat) (x : DyE) (hB : w.heap[B]? = some (.cells (dyF x).toArray 38 (0, 0))) (hd : DyA w x.1 x.2.1 x.2.2) (hbase : base ≤ w.heap.size) (hlen : o.length ≤ 1000) :
    ∃ g cap w', (Builtin.append_ #[t, t] ty #[v, .slice (some ⟨B, 0, none⟩) 1 1]).run Try.prog w = .ok (.slice (some ⟨g, 0, none⟩) (o.length + 1) cap) w' ∧ DyRow w' base (.slice (some ⟨g, 0, none⟩) (o.length + 1) cap) (o ++ [x]) ∧ w.grownBy w' v.ownBlock := by
  obtain ⟨i, hi, hz, hs, hby⟩ := info_parts info_dy
  have hnews : ∀ j u, (dyF x)[j]? = some u → w.cell? ((⟨B, 0, none⟩ : Addr).add j) = some u := World.news_of_block hB
  have h1 : ∀ u ∈ dyF x, u.oneCell' = true := by
    have := flat_one [x]
    rwa [show flat [x] = dyF x from by show dyF x ++ [] = _; rw [List.append_nil]] at this
  obtain ⟨g, cap, w', hrun, hown, hgr, _, _⟩ := run_append_lies (P := Try.prog) w t ty base 38 i (.agg #[.bool false, .slice none 0 0, .int .i64 0]) 3 40 ht hi hz hs hby (by rfl) (by decide) v o.length (flat o) hr.own ⟨B, 0, none⟩ 1 1 (dyF x) (by rfl) hnews h1 (by decide) (by unfold maxLen; omega) (by omega) hbase _ rfl
  refine ⟨g, cap, w', hrun, ⟨?_, ?_, ?_⟩, hgr⟩
  · rw [flat_snoc, List.length_append]; exact hown
  · intro g' hg'
    obtain rfl : g = g' := by simpa [Value.ownBlock] using hg'
    have hnl : ∀ u ∈ flat o, NoW u := by
      clear hrun hown hgr
      intro u hu
      have : ∀ l : List DyE, ∀ u ∈ flat l, NoW u := fun l => by
        induction l with
        | nil => intro u hu; exact absurd hu List.not_mem_nil
        | cons y l ih =>
          intro u hu
          rcases List.mem_append.1 hu with hu | hu
          · exact NoW.dy y u hu
          · exact ih u hu
      exact this o u hu
    have hnx := NoW.dy x
    have key : ∀ (W : World) (cs : Array Value), w' = W.alloc (.cells cs 38) → g = W.heap.size → (∀ u ∈ cs.toList, NoW u) → NoB w' g := fun W cs e1 e2 h => ⟨cs, 38, by rw [e1, e2]; exact heap_alloc_new _ _, h⟩
    rcases hr.own.2 with ⟨rfl, h0⟩ | ⟨g1, cap1, cur, rfl, hb1, hg1, hn1, hc1, hcs, htk⟩
    · have hrr := run_append_nil (P := Try.prog) w t ty 38 i _ ht hi hz ⟨B, 0, none⟩ 1 1 (dyF x) (by rw [hs]; rfl) hnews (by decide) (by decide) (by rw [hby]; decide)
      rw [hrun] at hrr
      injection hrr with e1 e2
      injection e1 with e1
      refine key _ _ e2 (congrArg Addr.block (Option.some.inj e1)) (fun u hu => ?_)
      rw [Array.toList_append, List.mem_append] at hu
      rcases hu with hu | hu
      · exact hnx u hu
      · exact NoW.zeros _ u hu
    · by_cases hroom : o.length + 1 ≤ cap1
      · have hrr := run_append_room (P := Try.prog) w t ty 38 i ht hi g1 o.length cap1 cur hg1 ⟨B, 0, none⟩ 1 1 (dyF x) (by rw [hs]; rfl) hnews h1 hroom (by rw [hs, hcs]; show o.length * 3 + 3 ≤ _; omega)
        rw [hrun] at hrr
        injection hrr with e1 e2
        injection e1 with e1
        have e3 : g = g1 := congrArg Addr.block (Option.some.inj e1)
        obtain ⟨cs0, t0, hg0, hn0⟩ := hr.no g1 rfl
        rw [hg1] at hg0
        injection hg0 with hg0
        injection hg0 with hg0
        subst hg0
        refine ⟨_, _, by rw [e2, e3]; exact setRow_heap w g1 cur _ _ _ hg1, fun u hu => ?_⟩
        rw [List.mem_append, List.mem_append] at hu
        rcases hu with (hu | hu) | hu
        · exact hn0 u (List.mem_of_mem_take hu)
        · exact hnx u hu
        · exact hn0 u (List.mem_of_mem_drop hu)
      · have hrr := run_append_grow (P := Try.prog) w t ty 38 i _ ht hi hz ⟨g1, 0, none⟩ o.length cap1 (flat o) (by rw [hs]; exact hr.own.1) (hr.own.cells (g := g1) rfl) ⟨B, 0, none⟩ 1 1 (dyF x) (by rw [hs]; rfl) hnews (by omega) (by omega) (growslice_fits (by omega) (by rw [hby]; omega))
        rw [hrun] at hrr
        injection hrr with e1 e2
        injection e1 with e1
        refine key _ _ e2 (congrArg Addr.block (Option.some.inj e1)) (fun u hu => ?_)
        rw [Array.toList_append, Array.toList_append, List.mem_append, List.mem_append] at hu
        rcases hu with (hu | hu) | hu
        · exact hnl u hu
        · exact hnx u hu
        · exact NoW.zeros _ u hu
  · intro y hy
    rcases List.mem_append.1 hy with hy | hy
    · exact (hr.dy y hy).grown hgr hr.no
    · rw [List.mem_singleton.1 hy]; exact hd.grown hgr hr.no

theorem wp_append_dy {ob : Oper} {a : Act} {K : Act → World → Prop} {Q : Exit → Act → World → Prop} (w : World) (s y : Operand) (t : TypeId) (ht : Try.prog.underlying t = some (.slice 38))
    (ho : ob.op = .call { callee := .builtin .append, args := #[s, y], argTypes := #[t, t] })
    (base : Nat) (v : Value) (o : List DyE) (n : Nat) (hn : o.length = n) (hs : a.eval s = v) (hr : DyRow w base v o) (B : Nat) (hx : a.eval y = .slice (some ⟨B, 0, none⟩) 1 1)
    (x : DyE) (hB : w.heap[B]? = some (.cells (dyF x).toArray 38 (0, 0))) (hd : DyA w x.1 x.2.1 x.2.2) (hbase : base ≤ w.heap.size) (hlen : n ≤ 1000)
    (h : ∀ g cap w', DyRow w' base (.slice (some ⟨g, 0, none⟩) (n + 1) cap) (o ++ [x]) → Below base w w' → K (a.put ob.dst (.slice (some ⟨g, 0, none⟩) (n + 1) cap)) w') : ob.wp Try.prog a w K Q := by
  subst hn
  obtain ⟨g, cap, w', hrun, hrow, hgr⟩ := run_append_dy w t ob.type ht base v o hr B x hB hd hbase hlen
  unfold Oper.wp execOp
  simp only [ho, resolve, invoke, builtin, Sem.run_bind, Sem.run_pure, Result.andThen_ok, List.map_toArray, List.map_cons, List.map_nil, hs, hx, hrun]
  exact h g cap w' hrow ((Below.refl base w).grown hgr hbase (own3_from hr.own))
theorem step_append_dy {ops : Array Oper} {ob : Oper} {a : Act} {K : Act → World → Prop} {Q : Exit → Act → World → Prop} {E : Prop} (w : World) (hgd : ob.guard = none) (s y : Operand) (t : TypeId) (ht : Try.prog.underlying t = some (.slice 38))
    (ho : ob.op = .call { callee := .builtin .append, args := #[s, y], argTypes := #[t, t] })
    (base : Nat) (v : Value) (o : List DyE) (n : Nat) (hn : o.length = n) (hs : a.eval s = v) (hr : DyRow w base v o) (B : Nat) (hx : a.eval y = .slice (some ⟨B, 0, none⟩) 1 1)
    (x : DyE) (hB : w.heap[B]? = some (.cells (dyF x).toArray 38 (0, 0))) (hd : DyA w x.1 x.2.1 x.2.2) (hbase : base ≤ w.heap.size) (hlen : n ≤ 1000)
    (h : ∀ g cap w', DyRow w' base (.slice (some ⟨g, 0, none⟩) (n + 1) cap) (o ++ [x]) → Below base w w' → K (a.put ob.dst (.slice (some ⟨g, 0, none⟩) (n + 1) cap)) w') :
    if Region.wanted ob (yielded ops a.tmps) = true then Oper.wp Try.prog ob a w K Q else E := by
  have hw : Region.wanted ob (yielded ops a.tmps) = true := by simp [Region.wanted, hgd]
  rw [if_pos hw]
  exact wp_append_dy w s y t ht ho base v o n hn hs hr B hx x hB hd hbase hlen h
end Go.Proofs.Ytigacobphgeeaaa

/- Contracts of the document's lists of dyads: Add, Zero. -/
set_option linter.unusedVariables false
namespace Go.Proofs.Ytigacobphgeeaaa
open Go.RowKit Go.Shelf Lev

/-- The list with one entry more. -/
theorem vals_snoc {f : Nat → Rat} {o : List DyE} (h : ∀ j (h : j < o.length), o[j].1.v = f j) {k : Nat} (hk : o.length = k) {x : DyE} (hx : x.1.v = f k) : ∀ j (h : j < (o ++ [x]).length), (o ++ [x])[j].1.v = f j := fun j hj => by
  by_cases h1 : j < o.length
  · rw [List.getElem_append_left h1]; exact h j h1
  · have hjk : j = k := by rw [List.length_append] at hj; simp at hj; omega
    subst hjk
    rw [List.getElem_append_right (by omega)]
    simp only [hk, Nat.sub_self, List.getElem_cons_zero]
    exact hx
def lv (l : List DyE) (j : Nat) : Rat := (l[j]?.map (fun x => x.1.v)).getD 0
theorem lv_get {l : List DyE} {j : Nat} (h : j < l.length) : lv l j = l[j].1.v := by unfold lv; rw [List.getElem?_eq_getElem h]; rfl

end Go.Proofs.Ytigacobphgeeaaa

/- Contract of the document's rows of products: Row. -/
set_option linter.unusedVariables false
namespace Lev
/-- The products of the numbers t 0 .. t (n-1), row by row: the rows below i. -/
def gramR (t : Nat → Rat) (n : Nat) : Nat → List Rat
  | 0 => []
  | i + 1 => gramR t n i ++ (List.range (n - i)).map (fun s => t i * t (i + s))
theorem gram_snoc (t : Nat → Rat) (i s : Nat) : (List.range (s + 1)).map (fun s => t i * t (i + s)) = (List.range s).map (fun s => t i * t (i + s)) ++ [t i * t (i + s)] := by
  rw [List.range_succ, List.map_append]; rfl
theorem gram_len (t : Nat → Rat) (n : Nat) : ∀ i, (gramR t n i).length ≤ n * i
  | 0 => Nat.zero_le _
  | i + 1 => by
    show (gramR t n i ++ _).length ≤ _
    rw [List.length_append, List.length_map, List.length_range]
    have := gram_len t n i
    rw [Nat.mul_succ]; omega
end Lev
namespace Go.Proofs.Ytigacobphgeeaaa
open Go.RowKit Go.Shelf Lev

theorem Bk.two {w : World} {g : Nat} {t : TypeId} {v0 v1 : Value} (h : Bk w g t #[v0, v1]) : w.cell? ⟨g, 0, none⟩ = some v0 ∧ w.cell? ⟨g, 1, none⟩ = some v1 := ⟨h.cell 0, h.cell 1⟩
theorem DyRow.listAt {w : World} {base n c : Nat} {A : Option Addr} {o : List DyE} (h : DyRow w base (.slice A n c) o) : DyL w A o c := by
  obtain ⟨A2, c2, e, h2⟩ := h.list
  injection e with e1 e2 e3
  subst e1; subst e3
  exact h2
theorem wpList_append_dy {ops : Array Oper} {rest : List Oper} {ob : Oper} {a : Act} {Q : Exit → Act → World → Prop} (w : World) (hgd : ob.guard = none) (s y : Operand) (t : TypeId) (ht : Try.prog.underlying t = some (.slice 38))
    (ho : ob.op = .call { callee := .builtin .append, args := #[s, y], argTypes := #[t, t] })
    (base : Nat) (v : Value) (o : List DyE) (n : Nat) (hn : o.length = n) (hs : a.eval s = v) (hr : DyRow w base v o) (B : Nat) (hx : a.eval y = .slice (some ⟨B, 0, none⟩) 1 1)
    (x : DyE) (hB : w.heap[B]? = some (.cells (dyF x).toArray 38 (0, 0))) (hd : DyA w x.1 x.2.1 x.2.2) (hbase : base ≤ w.heap.size) (hlen : n ≤ 1000)
    (h : ∀ g cap w', DyRow w' base (.slice (some ⟨g, 0, none⟩) (n + 1) cap) (o ++ [x]) → Below base w w' → wpList Try.prog ops Q rest (a.put ob.dst (.slice (some ⟨g, 0, none⟩) (n + 1) cap)) w') : wpList Try.prog ops Q (ob :: rest) a w :=
  wpList_plain hgd fun _ hK => wp_append_dy w s y t ht ho base v o n hn hs hr B hx x hB hd hbase hlen fun g cap w' h2 h3 => hK _ _ (h g cap w' h2 h3)

end Go.Proofs.Ytigacobphgeeaaa

/- Contracts of the document's lists of dyads: Zero. -/
set_option linter.unusedVariables false
namespace Go.Proofs.Ytigacobphgeeaaa
open Go.RowKit Go.Shelf Lev

end Go.Proofs.Ytigacobphgeeaaa

/- Memory: slices of rows of floats, and append to them. -/
set_option linter.unusedVariables false
namespace Go.Proofs.Ytigacobphgeeaaa
open Go.RowKit Go.Shelf Lev

/-- A row: the place, the numbers, the room; the last number. -/
abbrev RwE := Option Addr × List Nat × Nat × Nat
def rwF (x : RwE) : List Value := [.slice x.1 x.2.1.length x.2.2.1, .float .f64 x.2.2.2]
def flatW : List RwE → List Value
  | [] => []
  | x :: l => rwF x ++ flatW l
theorem flatW_len : ∀ l : List RwE, (flatW l).length = 2 * l.length
  | [] => rfl
  | x :: l => by
    show (rwF x ++ flatW l).length = 2 * (l.length + 1)
    rw [List.length_append, flatW_len l]; show 2 + _ = _; omega
theorem flatW_append : ∀ (l m : List RwE), flatW (l ++ m) = flatW l ++ flatW m
  | [], m => rfl
  | x :: l, m => by
    show rwF x ++ flatW (l ++ m) = rwF x ++ flatW l ++ flatW m
    rw [flatW_append l m, List.append_assoc]
theorem flatW_snoc (l : List RwE) (x : RwE) : flatW (l ++ [x]) = flatW l ++ rwF x := by rw [flatW_append]; show flatW l ++ (rwF x ++ []) = _; rw [List.append_nil]
theorem rwF_one (x : RwE) : ∀ u ∈ rwF x, u.oneCell' = true := fun u h => by
  unfold rwF at h
  rcases List.mem_cons.1 h with rfl | h
  · rfl
  · rw [List.mem_singleton.1 h]; rfl
theorem flatW_get : ∀ (l : List RwE) (j : Nat) (hj : j < l.length) (k : Nat), k < 2 → (flatW l)[2 * j + k]? = (rwF l[j])[k]?
  | [], j, hj, _, _ => absurd hj (Nat.not_lt_zero _)
  | x :: l, 0, _, k, hk => by
    show (rwF x ++ flatW l)[2 * 0 + k]? = (rwF x)[k]?
    rw [Nat.mul_zero, Nat.zero_add, List.getElem?_append_left (by show k < 2; exact hk)]
  | x :: l, j + 1, hj, k, hk => by
    show (rwF x ++ flatW l)[2 * (j + 1) + k]? = _
    rw [List.getElem?_append_right (by show 2 ≤ _; omega), show 2 * (j + 1) + k - (rwF x).length = 2 * j + k from by show 2 * (j + 1) + k - 2 = _; omega]
    exact flatW_get l j (by simpa using hj) k hk

theorem SlArg.grown {w w' : World} {A : Option Addr} {xs : List Nat} {c : Nat} {row : Option Nat} (h : SlArg w A xs c) (hg : w.grownBy w' row) (hne : 0 < xs.length → ∀ a, A = some a → some a.block ≠ row) : SlArg w' A xs c := by
  refine ⟨⟨h.reads.1, fun hl => ?_⟩, h.cap, h.room⟩
  obtain ⟨b, off, e, hb, hc⟩ := h.reads.2 hl
  refine ⟨b, off, e, Nat.lt_of_lt_of_le hb hg.size, fun j hj => ?_⟩
  rw [World.cell?_of_block (w := w) (hg.block b hb (hne hl _ e))]
  exact hc j hj
theorem SlArg.blk {w : World} {A : Option Addr} {xs : List Nat} {c : Nat} (h : SlArg w A xs c) (hl : 0 < xs.length) : ∀ a, A = some a → a.block < w.heap.size := fun a ha => by
  obtain ⟨b, off, e, hb, _⟩ := h.reads.2 hl
  rw [e] at ha
  cases ha
  exact hb
theorem SlArg.first {w : World} {A : Option Addr} {xs : List Nat} {c n : Nat} (h : SlArg w A xs c) (hn : n ≤ xs.length) : SlArg w A (xs.take n) c := by
  have hl : (xs.take n).length = n := by rw [List.length_take]; omega
  refine ⟨⟨fun x hx => h.reads.1 x (List.mem_of_mem_take hx), fun h0 => ?_⟩, by have := h.cap; omega, h.room⟩
  obtain ⟨b, off, e, hb, hc⟩ := h.reads.2 (by omega)
  refine ⟨b, off, e, hb, fun j hj => ?_⟩
  rw [hc j (by omega), List.getElem?_take_of_lt (by omega)]

/-- The slice of address A holds the rows l. -/
structure RwL (W : World) (A : Option Addr) (l : List RwE) (c : Nat) : Prop where
  reads : 0 < l.length → ∃ b off, A = some ⟨b, off, none⟩ ∧ b < W.heap.size ∧ ∀ j, j < 2 * l.length → W.cell? ⟨b, off + j, none⟩ = (flatW l)[j]?
  sl : ∀ x ∈ l, SlArg W x.1 x.2.1 x.2.2.1
  cap : l.length ≤ c
  room : c ≤ 9223372036854775807
theorem RwL.below {w w' : World} {A : Option Addr} {l : List RwE} {c : Nat} (h : RwL w A l c) (hb : Below w.heap.size w w') : RwL w' A l c :=
  ⟨fun hl => by
    obtain ⟨b, off, e, hB, hc⟩ := h.reads hl
    exact ⟨b, off, e, Nat.lt_of_lt_of_le hB hb.size, fun j hj => (hb.cell (p := ⟨b, off + j, none⟩) hB).trans (hc j hj)⟩, fun x hx => (h.sl x hx).below hb, h.cap, h.room⟩
theorem RwL.at {w : World} {b off : Nat} {l : List RwE} {c : Nat} (h : RwL w (some ⟨b, off, none⟩) l c) {j : Nat} (hj : j < l.length) :
    (w.cell? ⟨b, off + j * 2, none⟩ = some (.slice l[j].1 l[j].2.1.length l[j].2.2.1) ∧ w.cell? ⟨b, off + j * 2 + 1, none⟩ = some (.float .f64 l[j].2.2.2)) ∧ SlArg w l[j].1 l[j].2.1 l[j].2.2.1 := by
  obtain ⟨b', off', e, _, hc⟩ := h.reads (by omega)
  cases e
  rw [Nat.mul_comm j 2]
  refine ⟨⟨?_, ?_⟩, h.sl _ (List.getElem_mem hj)⟩
  · have := hc (2 * j + 0) (by omega); rw [flatW_get l j hj 0 (by omega)] at this; exact this
  · have := hc (2 * j + 1) (by omega); rw [flatW_get l j hj 1 (by omega)] at this; rw [Nat.add_assoc]; exact this

end Go.Proofs.Ytigacobphgeeaaa

/- Contract of the document's lines of a factor. -/
set_option linter.unusedVariables false
namespace Go.Proofs.Ytigacobphgeeaaa
open Go.RowKit Go.Shelf Lev

theorem rws_snoc {P : Nat → RwE → Prop} {o : List RwE} (h : ∀ j (h : j < o.length), P j o[j]) {k : Nat} (hk : o.length = k) {x : RwE} (hx : P k x) : ∀ j (h : j < (o ++ [x]).length), P j (o ++ [x])[j] := fun j hj => by
  by_cases h1 : j < o.length
  · rw [List.getElem_append_left h1]; exact h j h1
  · have hjk : j = k := by rw [List.length_append] at hj; simp at hj; omega
    subst hjk
    rw [List.getElem_append_right (by omega)]
    simp only [hk, Nat.sub_self, List.getElem_cons_zero]
    exact hx

end Go.Proofs.Ytigacobphgeeaaa

/- Contracts of the document's Gram lists: Rows, Factor. -/
set_option linter.unusedVariables false
namespace Lev
theorem gram_R {t : Nat → Rat} {n : Nat} (h : ∀ i, i < n → R 1074 1025 (t i)) : ∀ i, i ≤ n → ∀ x ∈ gramR t n i, R 2148 2050 x
  | 0, _, x, hx => absurd hx List.not_mem_nil
  | i + 1, hi, x, hx => by
    rcases List.mem_append.1 hx with hx | hx
    · exact gram_R h i (by omega) x hx
    · rw [List.mem_map] at hx
      obtain ⟨s, hs, rfl⟩ := hx
      rw [List.mem_range] at hs
      exact R_mul (a := 1074) (b := 1025) (c := 1074) (d := 1025) (h i (by omega)) (h (i + s) (by omega))
/-- The entry j of the products of a row. -/
def gv (t : Nat → Rat) (n j : Nat) : Rat := ((gramR t (n + 1) (n + 1))[j]?).getD 0
theorem gv_R {t : Nat → Rat} {n j : Nat} (h : ∀ i, i < n + 1 → R 1074 1025 (t i)) : R 2148 2050 (gv t n j) := by
  unfold gv
  rcases hx : (gramR t (n + 1) (n + 1))[j]? with _ | x
  · exact R_zero _ _
  · exact gram_R h _ (Nat.le_refl _) x (List.mem_of_getElem? hx)
theorem gram_size (t : Nat → Rat) {n : Nat} (h : 1 ≤ n ∧ n ≤ 6) : (gramR t (n + 1) (n + 1)).length = (sizeI n).toNat := by
  have h : n = 1 ∨ n = 2 ∨ n = 3 ∨ n = 4 ∨ n = 5 ∨ n = 6 := by omega
  rcases h with e | e | e | e | e | e <;> rw [e] <;> simp [gramR] <;> decide
end Lev
namespace Go.Proofs.Ytigacobphgeeaaa
open Go.RowKit Go.Shelf Lev

theorem lv_map {l : List DyE} {m : List Rat} (h : l.map (fun x => x.1.v) = m) (j : Nat) : lv l j = (m[j]?).getD 0 := by
  unfold lv
  rw [← h, List.getElem?_map]
theorem lv_zeros (n j : Nat) : lv (List.replicate n (Dy.zero, (none : Option Addr), 0)) j = 0 := by
  unfold lv
  rw [List.getElem?_replicate]
  split
  · show Dy.zero.v = 0
    exact Dy.zero_v
  · rfl

end Go.Proofs.Ytigacobphgeeaaa

/- Contract of the document's Gram list of a factor. -/
set_option linter.unusedVariables false
namespace Lev
theorem getS_fin {f : Fct} (h : f.ok = true) (i j : Int) : fin (getS f i j) := by
  unfold getS
  split
  · rcases hx : f.xs[(atI f.C i j).toNat]? with _ | x
    · exact by decide
    · exact small_fin (check_small' h (List.mem_of_getElem? hx))
  · exact by decide
/-- The entry j of the products of a factor's lines. -/
def gramS (f : Fct) (n j : Nat) : Rat := sumR (fun k => gv (fun i => fv (getS f k i)) n j) (n + 1)
end Lev
namespace Go.Proofs.Ytigacobphgeeaaa
open Go.RowKit Go.Shelf Lev

end Go.Proofs.Ytigacobphgeeaaa

/- Contract of the document's Within of layer 4. -/
set_option linter.unusedVariables false
namespace Lev
/-- What Within tells. -/
def wiQ (x q : Rat) (k : Nat) : Bool := decide (cmpQ (ab (x - q)) (ab q * (k : Rat) * pw (-53) + pw (-1075)) ≤ 0)
end Lev
namespace Go.Proofs.Ytigacobphgeeaaa
open Go.RowKit Go.Shelf Lev

attribute [local go_sem] order_lt order_gt order_eq order_ne order_le order_ge

end Go.Proofs.Ytigacobphgeeaaa
