/- Plain texts, laid as one. -/
import Derived.Test.YtdpmpfbbfknlmaaZ9
import Derived.Deep.AppendLies
import Derived.OneCell
import Derived.Deep.RegionLaw
import Derived.Test.YtdpmpfbbfknlmaaC9
/- Memory: slices of dyads. -/
set_option linter.unusedVariables false
namespace Go.Proofs.Ytdpmpfbbfknlmaa
open Go.RowKit Go.Shelf Lev

/-- A dyad with its digits' place. -/
abbrev DyE := Dy × Option Addr × Nat
def dyF (x : DyE) : List Value := [.bool x.1.neg, .slice x.2.1 (nd x.1.n).length x.2.2, .int .i64 x.1.e]
def flat : List DyE → List Value
  | [] => []
  | x :: l => dyF x ++ flat l
theorem flat_len : ∀ l : List DyE, (flat l).length = 3 * l.length
  | [] => rfl
  | x :: l => by
    show (dyF x ++ flat l).length = 3 * (l.length + 1)
    rw [List.length_append, flat_len l]; show 3 + _ = _; omega
theorem flat_append : ∀ (l m : List DyE), flat (l ++ m) = flat l ++ flat m
  | [], m => rfl
  | x :: l, m => by
    show dyF x ++ flat (l ++ m) = dyF x ++ flat l ++ flat m
    rw [flat_append l m, List.append_assoc]
theorem flat_snoc (l : List DyE) (x : DyE) : flat (l ++ [x]) = flat l ++ dyF x := by rw [flat_append]; show flat l ++ (dyF x ++ []) = _; rw [List.append_nil]
theorem flat_one : ∀ (l : List DyE), ∀ u ∈ flat l, u.oneCell' = true
  | [], u, h => absurd h List.not_mem_nil
  | x :: l, u, h => by
    rcases List.mem_append.1 h with h | h
    · unfold dyF at h
      rcases List.mem_cons.1 h with rfl | h
      · rfl
      · rcases List.mem_cons.1 h with rfl | h
        · rfl
        · rw [List.mem_singleton.1 h]; rfl
    · exact flat_one l u h
theorem flat_get : ∀ (l : List DyE) (j : Nat) (hj : j < l.length) (k : Nat), k < 3 → (flat l)[3 * j + k]? = (dyF l[j])[k]?
  | [], j, hj, _, _ => absurd hj (Nat.not_lt_zero _)
  | x :: l, 0, _, k, hk => by
    show (dyF x ++ flat l)[3 * 0 + k]? = (dyF x)[k]?
    rw [Nat.mul_zero, Nat.zero_add, List.getElem?_append_left (by show k < 3; exact hk)]
  | x :: l, j + 1, hj, k, hk => by
    show (dyF x ++ flat l)[3 * (j + 1) + k]? = _
    rw [List.getElem?_append_right (by show 3 ≤ _; omega), show 3 * (j + 1) + k - (dyF x).length = 3 * j + k from by show 3 * (j + 1) + k - 3 = _; omega]
    exact flat_get l j (by simpa using hj) k hk

/-- The slice of address A holds the dyads l. -/
structure DyL (W : World) (A : Option Addr) (l : List DyE) (c : Nat) : Prop where
  reads : 0 < l.length → ∃ b off, A = some ⟨b, off, none⟩ ∧ b < W.heap.size ∧ ∀ j, j < 3 * l.length → W.cell? ⟨b, off + j, none⟩ = (flat l)[j]?
  dy : ∀ x ∈ l, DyA W x.1 x.2.1 x.2.2
  cap : l.length ≤ c
  room : c ≤ 9223372036854775807
theorem DyL.below {w w' : World} {A : Option Addr} {l : List DyE} {c : Nat} (h : DyL w A l c) (hb : Below w.heap.size w w') : DyL w' A l c :=
  ⟨fun hl => by
    obtain ⟨b, off, e, hB, hc⟩ := h.reads hl
    exact ⟨b, off, e, Nat.lt_of_lt_of_le hB hb.size, fun j hj => (hb.cell (p := ⟨b, off + j, none⟩) hB).trans (hc j hj)⟩, fun x hx => (h.dy x hx).below hb, h.cap, h.room⟩
theorem DyL.nil (w : World) (A : Option Addr) {c : Nat} (h : c ≤ 9223372036854775807) : DyL w A [] c := ⟨fun h => absurd h (by decide), fun x hx => absurd hx List.not_mem_nil, Nat.zero_le _, h⟩
/-- The entry j: its three cells, and that it is a dyad. -/
theorem DyL.at {w : World} {b off : Nat} {l : List DyE} {c : Nat} (h : DyL w (some ⟨b, off, none⟩) l c) {j : Nat} (hj : j < l.length) :
    (w.cell? ⟨b, off + j * 3, none⟩ = some (.bool l[j].1.neg) ∧ w.cell? ⟨b, off + j * 3 + 1, none⟩ = some (.slice l[j].2.1 (nd l[j].1.n).length l[j].2.2) ∧ w.cell? ⟨b, off + j * 3 + 2, none⟩ = some (.int .i64 l[j].1.e)) ∧ DyA w l[j].1 l[j].2.1 l[j].2.2 := by
  obtain ⟨b', off', e, _, hc⟩ := h.reads (by omega)
  cases e
  rw [Nat.mul_comm j 3]
  refine ⟨⟨?_, ?_, ?_⟩, h.dy _ (List.getElem_mem hj)⟩
  · have := hc (3 * j + 0) (by omega); rw [flat_get l j hj 0 (by omega)] at this; exact this
  · have := hc (3 * j + 1) (by omega); rw [flat_get l j hj 1 (by omega)] at this; rw [Nat.add_assoc]; exact this
  · have := hc (3 * j + 2) (by omega); rw [flat_get l j hj 2 (by omega)] at this; rw [Nat.add_assoc]; exact this
theorem DyL.made {w : World} {g cap : Nat} {e : TypeId} {cur : Array Value} {l : List DyE} (hg : w.heap[g]? = some (.cells cur e (0, 0))) (hn : l.length ≤ cap) (hc : cap ≤ 9223372036854775807) (ht : cur.toList.take (3 * l.length) = flat l) (hd : ∀ x ∈ l, DyA w x.1 x.2.1 x.2.2) : DyL w (some ⟨g, 0, none⟩) l cap := by
  have hb : Bk w g e cur := hg
  refine ⟨fun _ => ⟨g, 0, rfl, hb.lt, fun j hj => ?_⟩, hd, hn, hc⟩
  rw [Nat.zero_add, hb.cell, ← ht]
  rw [List.getElem?_take_of_lt hj, Array.getElem?_toList]
theorem DyL.own {w : World} {base : Nat} {e : TypeId} {v : Value} {l : List DyE} (h : w.ownsRow base e 3 v l.length (flat l)) (hd : ∀ x ∈ l, DyA w x.1 x.2.1 x.2.2) : ∃ A c, v = .slice A l.length c ∧ DyL w A l c := by
  rcases h.2 with ⟨rfl, h0⟩ | ⟨g, cap, cur, rfl, hb, hg, hn, hc, _, ht⟩
  · obtain rfl := List.eq_nil_of_length_eq_zero h0
    exact ⟨none, 0, rfl, DyL.nil _ _ (by decide)⟩
  · exact ⟨_, _, rfl, DyL.made hg hn hc (by rw [Nat.mul_comm] at ht; exact ht) hd⟩
theorem own3_below {w w' : World} {base sz : Nat} {e : TypeId} {v : Value} {n : Nat} {xs : List Value} (h : w.ownsRow base e sz v n xs) (hb : Below w.heap.size w w') : w'.ownsRow base e sz v n xs := by
  refine ⟨h.1, ?_⟩
  rcases h.2 with h2 | ⟨g, cap, cur, h1, h2, h3, h4, h5, h6, h7⟩
  · exact .inl h2
  · refine .inr ⟨g, cap, cur, h1, h2, ?_, h4, h5, h6, h7⟩
    have hg : g < w.heap.size := by
      rcases Nat.lt_or_ge g w.heap.size with h | h
      · exact h
      · rw [Array.getElem?_eq_none h] at h3; cases h3
    rw [hb.block g hg]; exact h3
theorem own3_from {w : World} {base sz : Nat} {e : TypeId} {v : Value} {n : Nat} {ys : List Value} (h : w.ownsRow base e sz v n ys) : ∀ g, v.ownBlock = some g → base ≤ g := by
  rcases h.2 with ⟨rfl, _⟩ | ⟨g', cap, cur, rfl, hb, _⟩
  · intro g hg; simp [Value.ownBlock] at hg
  · intro g hg
    have : g' = g := by simpa [Value.ownBlock] using hg
    omega
theorem flat_zeros (n : Nat) : madeCells #[.bool false, .slice none 0 0, .int .i64 0] (3 * n) = (flat (List.replicate n (Dy.zero, none, 0))).toArray := by
  apply Array.ext
  · rw [size_madeCells, List.size_toArray, flat_len, List.length_replicate]
  · intro i h1 h2
    rw [size_madeCells] at h1
    have h3 : i / 3 < n := by omega
    have h4 : (flat (List.replicate n (Dy.zero, (none : Option Addr), 0)))[i]? = (dyF (Dy.zero, none, 0))[i % 3]? := by
      have := flat_get (List.replicate n (Dy.zero, none, 0)) (i / 3) (by rw [List.length_replicate]; exact h3) (i % 3) (by omega)
      rw [show 3 * (i / 3) + i % 3 = i from by omega, List.getElem_replicate] at this
      exact this
    have h5 : (madeCells #[.bool false, .slice none 0 0, .int .i64 0] (3 * n))[i]? = (dyF (Dy.zero, none, 0))[i % 3]? := by
      unfold madeCells
      rw [Array.getElem?_map, Array.getElem?_range, if_pos h1]
      show some (#[Value.bool false, .slice none 0 0, .int .i64 0][i % 3]!) = _
      have : i % 3 = 0 ∨ i % 3 = 1 ∨ i % 3 = 2 := by omega
      unfold dyF Dy.zero
      rw [nd_zero]
      rcases this with e | e | e <;> rw [e] <;> rfl
    have h6 : (madeCells #[.bool false, .slice none 0 0, .int .i64 0] (3 * n))[i]? = (flat (List.replicate n (Dy.zero, none, 0))).toArray[i]? := by
      rw [h5, List.getElem?_toArray, h4]
    rw [Array.getElem?_eq_getElem (by rw [size_madeCells]; exact h1), Array.getElem?_eq_getElem h2] at h6
    exact Option.some.inj h6
theorem DyL.zeros (w : World) (n : Nat) (hn : n ≤ 9223372036854775807) (t : TypeId) : DyL (w.alloc (.cells (madeCells #[.bool false, .slice none 0 0, .int .i64 0] (3 * n)) t)) (some ⟨w.heap.size, 0, none⟩) (List.replicate n (Dy.zero, none, 0)) n := by
  rw [flat_zeros]
  refine DyL.made (heap_alloc_new _ _) (by rw [List.length_replicate]; exact Nat.le_refl _) hn ?_ (fun x hx => by rw [List.mem_replicate] at hx; rw [hx.2]; exact DyA.zero _)
  rw [show (flat (List.replicate n (Dy.zero, (none : Option Addr), 0))).toArray.toList = flat (List.replicate n (Dy.zero, none, 0)) from rfl, List.length_replicate]
  exact List.take_of_length_le (by rw [flat_len, List.length_replicate]; exact Nat.le_refl _)
end Go.Proofs.Ytdpmpfbbfknlmaa

/- Memory: a row of dyads under append. -/
set_option linter.unusedVariables false
namespace Go.Proofs.Ytdpmpfbbfknlmaa
open Go.RowKit Go.Shelf Lev

theorem info_dy : (Try.prog.info? 49).map (fun i => (i.zero, i.size, i.bytes)) = some (some (.agg #[.bool false, .slice none 0 0, .int .i64 0]), 3, 40) := by kernel_rfl

/-- No digit of a number is this. -/
def NoW (u : Value) : Prop := ∀ x, u ≠ .int .u32 x
theorem NoW.dy (x : DyE) : ∀ u ∈ dyF x, NoW u := fun u h => by
  unfold dyF at h
  simp only [List.mem_cons, List.not_mem_nil, or_false] at h
  rcases h with rfl | rfl | rfl <;> intro x e <;> cases e
theorem NoW.zeros (n : Nat) : ∀ u ∈ (Builtin.zeroCells (Value.agg #[.bool false, .slice none 0 0, .int .i64 0]).cells n).toList, NoW u := fun u h => by
  unfold Builtin.zeroCells at h
  rw [Array.mem_toList_iff, Array.mem_map] at h
  obtain ⟨i, _, rfl⟩ := h
  have : i % (Value.agg #[.bool false, .slice none 0 0, .int .i64 0]).cells.size < 3 := Nat.mod_lt _ (by decide)
  generalize i % (Value.agg #[.bool false, .slice none 0 0, .int .i64 0]).cells.size = k at *
  have h3 : k = 0 ∨ k = 1 ∨ k = 2 := by omega
  rcases h3 with rfl | rfl | rfl <;> intro x e <;> cases e
def NoB (W : World) (g : Nat) : Prop := ∃ cs t, W.heap[g]? = some (.cells cs t (0, 0)) ∧ ∀ u ∈ cs.toList, NoW u
theorem NoB.cell {W : World} {g : Nat} (h : NoB W g) {j : Nat} {x : Int} : W.cell? ⟨g, j, none⟩ ≠ some (.int .u32 x) := fun e => by
  obtain ⟨cs, t, hg, hn⟩ := h
  rw [cell_of_row W g j cs t (0, 0) hg, ← Array.getElem?_toList] at e
  exact hn _ (List.mem_of_getElem? e) x rfl
theorem NoB.below {w w' : World} {g : Nat} (h : NoB w g) (hb : Below w.heap.size w w') : NoB w' g := by
  obtain ⟨cs, t, hg, hn⟩ := h
  exact ⟨cs, t, (hb.block g (Array.getElem?_eq_some_iff.1 hg).1).trans hg, hn⟩
theorem NatA.grown {w w' : World} {A : Option Addr} {ds : List Nat} {c : Nat} {row : Option Nat} (h : NatA w A ds c) (hg : w.grownBy w' row) (hn : ∀ g, row = some g → NoB w g) : NatA w' A ds c := by
  refine ⟨⟨fun hl => ?_, h.sl.cap, h.sl.room⟩, h.dig, h.len⟩
  obtain ⟨b, off, e, hb, hc⟩ := h.sl.reads hl
  have hl2 : 0 < ds.length := by rwa [nV_length] at hl
  have hne : some b ≠ row := fun e2 => by
    have h1 := hc 0 hl
    rw [nV_get hl2] at h1
    exact (hn b e2.symm).cell h1
  refine ⟨b, off, e, Nat.lt_of_lt_of_le hb hg.size, fun j hj => ?_⟩
  rw [World.cell?_of_block (w := w) (hg.block b hb hne)]
  exact hc j hj
theorem DyA.grown {w w' : World} {d : Dy} {A : Option Addr} {c : Nat} {row : Option Nat} (h : DyA w d A c) (hg : w.grownBy w' row) (hn : ∀ g, row = some g → NoB w g) : DyA w' d A c := ⟨h.ok, h.nat.grown hg hn, h.q⟩

/-- A row of dyads that the walk owns. -/
structure DyRow (W : World) (base : Nat) (v : Value) (o : List DyE) : Prop where
  own : W.ownsRow base 49 3 v o.length (flat o)
  no : ∀ g, v.ownBlock = some g → NoB W g
  dy : ∀ x ∈ o, DyA W x.1 x.2.1 x.2.2
theorem DyRow.nil (W : World) (base : Nat) : DyRow W base (.slice none 0 0) [] := ⟨World.ownsRow_nil _ _ _ _, fun g h => by simp [Value.ownBlock] at h, fun x hx => absurd hx List.not_mem_nil⟩
theorem DyRow.call {w w' : World} {base : Nat} {v : Value} {o : List DyE} (h : DyRow w base v o) (hb : Below w.heap.size w w') : DyRow w' base v o :=
  ⟨own3_below h.own hb, fun g hg => (h.no g hg).below hb, fun x hx => (h.dy x hx).below hb⟩
theorem DyRow.list {w : World} {base : Nat} {v : Value} {o : List DyE} (h : DyRow w base v o) : ∃ A c, v = .slice A o.length c ∧ DyL w A o c := DyL.own h.own h.dy

/-- One dyad is appended. -/
theorem run_append_dy (w : World) (t ty : TypeId) (ht : Try.prog.underlying t = some (.slice 49)) (base : Nat) (v : Value) (o : List DyE) (hr : DyRow w base v o) (B : Nat) (x : DyE) (hB : w.heap[B]? = some (.cells (dyF x).toArray 49 (0, 0))) (hd : DyA w x.1 x.2.1 x.2.2) (hbase : base ≤ w.heap.size) (hlen : o.length ≤ 1000) :
    ∃ g cap w', (Builtin.append_ #[t, t] ty #[v, .slice (some ⟨B, 0, none⟩) 1 1]).run Try.prog w = .ok (.slice (some ⟨g, 0, none⟩) (o.length + 1) cap) w' ∧ DyRow w' base (.slice (some ⟨g, 0, none⟩) (o.length + 1) cap) (o ++ [x]) ∧ w.grownBy w' v.ownBlock := by
  obtain ⟨i, hi, hz, hs, hby⟩ := info_parts info_dy
  have hnews : ∀ j u, (dyF x)[j]? = some u → w.cell? ((⟨B, 0, none⟩ : Addr).add j) = some u := World.news_of_block hB
  have h1 : ∀ u ∈ dyF x, u.oneCell' = true := by
    have := flat_one [x]
    rwa [show flat [x] = dyF x from by show dyF x ++ [] = _; rw [List.append_nil]] at this
  obtain ⟨g, cap, w', hrun, hown, hgr, _, _⟩ := run_append_lies (P := Try.prog) w t ty base 49 i (.agg #[.bool false, .slice none 0 0, .int .i64 0]) 3 40 ht hi hz hs hby (by rfl) (by decide) v o.length (flat o) hr.own ⟨B, 0, none⟩ 1 1 (dyF x) (by rfl) hnews h1 (by decide) (by unfold maxLen; omega) (by omega) hbase _ rfl
  refine ⟨g, cap, w', hrun, ⟨?_, ?_, ?_⟩, hgr⟩
  · rw [flat_snoc, List.length_append]; exact hown
  · intro g' hg'
    obtain rfl : g = g' := by simpa [Value.ownBlock] using hg'
    have hnl : ∀ u ∈ flat o, NoW u := by
      clear hrun hown hgr
      intro u hu
      have : ∀ l : List DyE, ∀ u ∈ flat l, NoW u := fun l => by
        induction l with
        | nil => intro u hu; exact absurd hu List.not_mem_nil
        | cons y l ih =>
          intro u hu
          rcases List.mem_append.1 hu with hu | hu
          · exact NoW.dy y u hu
          · exact ih u hu
      exact this o u hu
    have hnx := NoW.dy x
    have key : ∀ (W : World) (cs : Array Value), w' = W.alloc (.cells cs 49) → g = W.heap.size → (∀ u ∈ cs.toList, NoW u) → NoB w' g := fun W cs e1 e2 h => ⟨cs, 49, by rw [e1, e2]; exact heap_alloc_new _ _, h⟩
    rcases hr.own.2 with ⟨rfl, h0⟩ | ⟨g1, cap1, cur, rfl, hb1, hg1, hn1, hc1, hcs, htk⟩
    · have hrr := run_append_nil (P := Try.prog) w t ty 49 i _ ht hi hz ⟨B, 0, none⟩ 1 1 (dyF x) (by rw [hs]; rfl) hnews (by decide) (by decide) (by rw [hby]; decide)
      rw [hrun] at hrr
      injection hrr with e1 e2
      injection e1 with e1
      refine key _ _ e2 (congrArg Addr.block (Option.some.inj e1)) (fun u hu => ?_)
      rw [Array.toList_append, List.mem_append] at hu
      rcases hu with hu | hu
      · exact hnx u hu
      · exact NoW.zeros _ u hu
    · by_cases hroom : o.length + 1 ≤ cap1
      · have hrr := run_append_room (P := Try.prog) w t ty 49 i ht hi g1 o.length cap1 cur hg1 ⟨B, 0, none⟩ 1 1 (dyF x) (by rw [hs]; rfl) hnews h1 hroom (by rw [hs, hcs]; show o.length * 3 + 3 ≤ _; omega)
        rw [hrun] at hrr
        injection hrr with e1 e2
        injection e1 with e1
        have e3 : g = g1 := congrArg Addr.block (Option.some.inj e1)
        obtain ⟨cs0, t0, hg0, hn0⟩ := hr.no g1 rfl
        rw [hg1] at hg0
        injection hg0 with hg0
        injection hg0 with hg0
        subst hg0
        refine ⟨_, _, by rw [e2, e3]; exact setRow_heap w g1 cur _ _ _ hg1, fun u hu => ?_⟩
        rw [List.mem_append, List.mem_append] at hu
        rcases hu with (hu | hu) | hu
        · exact hn0 u (List.mem_of_mem_take hu)
        · exact hnx u hu
        · exact hn0 u (List.mem_of_mem_drop hu)
      · have hrr := run_append_grow (P := Try.prog) w t ty 49 i _ ht hi hz ⟨g1, 0, none⟩ o.length cap1 (flat o) (by rw [hs]; exact hr.own.1) (hr.own.cells (g := g1) rfl) ⟨B, 0, none⟩ 1 1 (dyF x) (by rw [hs]; rfl) hnews (by omega) (by omega) (growslice_fits (by omega) (by rw [hby]; omega))
        rw [hrun] at hrr
        injection hrr with e1 e2
        injection e1 with e1
        refine key _ _ e2 (congrArg Addr.block (Option.some.inj e1)) (fun u hu => ?_)
        rw [Array.toList_append, Array.toList_append, List.mem_append, List.mem_append] at hu
        rcases hu with (hu | hu) | hu
        · exact hnl u hu
        · exact hnx u hu
        · exact NoW.zeros _ u hu
  · intro y hy
    rcases List.mem_append.1 hy with hy | hy
    · exact (hr.dy y hy).grown hgr hr.no
    · rw [List.mem_singleton.1 hy]; exact hd.grown hgr hr.no

theorem wp_append_dy {ob : Oper} {a : Act} {K : Act → World → Prop} {Q : Exit → Act → World → Prop} (w : World) (s y : Operand) (t : TypeId) (ht : Try.prog.underlying t = some (.slice 49))
    (ho : ob.op = .call { callee := .builtin .append, args := #[s, y], argTypes := #[t, t] })
    (base : Nat) (v : Value) (o : List DyE) (n : Nat) (hn : o.length = n) (hs : a.eval s = v) (hr : DyRow w base v o) (B : Nat) (hx : a.eval y = .slice (some ⟨B, 0, none⟩) 1 1)
    (x : DyE) (hB : w.heap[B]? = some (.cells (dyF x).toArray 49 (0, 0))) (hd : DyA w x.1 x.2.1 x.2.2) (hbase : base ≤ w.heap.size) (hlen : n ≤ 1000)
    (h : ∀ g cap w', DyRow w' base (.slice (some ⟨g, 0, none⟩) (n + 1) cap) (o ++ [x]) → Below base w w' → K (a.put ob.dst (.slice (some ⟨g, 0, none⟩) (n + 1) cap)) w') : ob.wp Try.prog a w K Q := by
  subst hn
  obtain ⟨g, cap, w', hrun, hrow, hgr⟩ := run_append_dy w t ob.type ht base v o hr B x hB hd hbase hlen
  unfold Oper.wp execOp
  simp only [ho, resolve, invoke, builtin, Sem.run_bind, Sem.run_pure, Result.andThen_ok, List.map_toArray, List.map_cons, List.map_nil, hs, hx, hrun]
  exact h g cap w' hrow ((Below.refl base w).grown hgr hbase (own3_from hr.own))
theorem step_append_dy {ops : Array Oper} {ob : Oper} {a : Act} {K : Act → World → Prop} {Q : Exit → Act → World → Prop} {E : Prop} (w : World) (hgd : ob.guard = none) (s y : Operand) (t : TypeId) (ht : Try.prog.underlying t = some (.slice 49))
    (ho : ob.op = .call { callee := .builtin .append, args := #[s, y], argTypes := #[t, t] })
    (base : Nat) (v : Value) (o : List DyE) (n : Nat) (hn : o.length = n) (hs : a.eval s = v) (hr : DyRow w base v o) (B : Nat) (hx : a.eval y = .slice (some ⟨B, 0, none⟩) 1 1)
    (x : DyE) (hB : w.heap[B]? = some (.cells (dyF x).toArray 49 (0, 0))) (hd : DyA w x.1 x.2.1 x.2.2) (hbase : base ≤ w.heap.size) (hlen : n ≤ 1000)
    (h : ∀ g cap w', DyRow w' base (.slice (some ⟨g, 0, none⟩) (n + 1) cap) (o ++ [x]) → Below base w w' → K (a.put ob.dst (.slice (some ⟨g, 0, none⟩) (n + 1) cap)) w') :
    if Region.wanted ob (yielded ops a.tmps) = true then Oper.wp Try.prog ob a w K Q else E := by
  have hw : Region.wanted ob (yielded ops a.tmps) = true := by simp [Region.wanted, hgd]
  rw [if_pos hw]
  exact wp_append_dy w s y t ht ho base v o n hn hs hr B hx x hB hd hbase hlen h
end Go.Proofs.Ytdpmpfbbfknlmaa

/- Contracts of the document's lists of dyads: Add, Zero. -/
set_option linter.unusedVariables false
namespace Go.Proofs.Ytdpmpfbbfknlmaa
open Go.RowKit Go.Shelf Lev

/-- The list with one entry more. -/
theorem vals_snoc {f : Nat → Rat} {o : List DyE} (h : ∀ j (h : j < o.length), o[j].1.v = f j) {k : Nat} (hk : o.length = k) {x : DyE} (hx : x.1.v = f k) : ∀ j (h : j < (o ++ [x]).length), (o ++ [x])[j].1.v = f j := fun j hj => by
  by_cases h1 : j < o.length
  · rw [List.getElem_append_left h1]; exact h j h1
  · have hjk : j = k := by rw [List.length_append] at hj; simp at hj; omega
    subst hjk
    rw [List.getElem_append_right (by omega)]
    simp only [hk, Nat.sub_self, List.getElem_cons_zero]
    exact hx
def lv (l : List DyE) (j : Nat) : Rat := (l[j]?.map (fun x => x.1.v)).getD 0
theorem lv_get {l : List DyE} {j : Nat} (h : j < l.length) : lv l j = l[j].1.v := by unfold lv; rw [List.getElem?_eq_getElem h]; rfl

set_option maxRecDepth 100000 in
set_option maxHeartbeats 2000000 in
theorem add08_any (l m : List DyE) (A B : Option Addr) (ca cb : Nat) (w : World) (ha : DyL w A l ca) (hb : DyL w B m cb) (hlen : l.length = m.length) (hl : l.length ≤ 1000)
    (hq : ∀ j, j < l.length → Q (lv l j + lv m j)) :
    Calls Try.prog 35 #[.slice A l.length ca, .slice B m.length cb] w fun e w' => (∃ C o c, e = .returned (.tuple #[.slice C o.length c, .bool true]) ∧ DyL w' C o c ∧ o.length = l.length ∧ ∀ j (h : j < o.length), o[j].1.v = lv l j + lv m j) ∧ Below w.heap.size w w' := by
  have HA := Lib.hid ha; have HB := Lib.hid hb; have HQ := Lib.hid hq
  have hl2 : m.length ≤ 1000 := by omega
  have t0 : ((l.length : Int) != (m.length : Int)) = false := by rw [bne_eq_false_iff_eq]; omega
  have HLEN := Lib.hid hlen
  clear ha hb hq hlen
  go_enter Try.func35, Try.ntmps35
  go_wp2_with fail
  go_loopw [6, 7] (fun v i wr => ∃ (k : Nat) (o : List DyE), k ≤ l.length ∧ i = .int .i64 (k : Int) ∧ DyRow wr w.heap.size v o ∧ o.length = k ∧ (∀ j (h : j < o.length), o[j].1.v = lv l j + lv m j) ∧ Below w.heap.size w wr) (fun _ i _ => l.length - (intOf i).toNat)
  case atStart => exact ⟨0, [], Nat.zero_le _, rfl, DyRow.nil _ _, rfl, fun j h => absurd h (Nat.not_lt_zero _), Below.refl _ _⟩
  case round =>
    obtain ⟨k, o, hk, rfl, hown, hol, hval, hbel⟩ := hrel
    by_cases hlt : (k : Int) < (l.length : Int)
    · have hlt2 : (k : Int) < (m.length : Int) := by have := HLEN.out; omega
      have hkl : k < l.length := by omega
      have hkm : k < m.length := by have := HLEN.out; omega
      have hAk := HA.out.below hbel
      have hBk := HB.out.below hbel
      obtain ⟨b1, off1, rfl, hb1, _⟩ := hAk.reads (by omega)
      obtain ⟨b2, off2, rfl, hb2, _⟩ := hBk.reads (by omega)
      obtain ⟨⟨a0, a1, a2⟩, hd1⟩ := hAk.at hkl
      obtain ⟨⟨c0, c1, c2⟩, hd2⟩ := hBk.at hkm
      have hqk := HQ.out k hkl
      have HVS := Lib.hid (fun (x : DyE) (hx : x.1.v = lv l k + lv m k) => vals_snoc hval hol hx)
      rw [lv_get hkl, lv_get hkm] at hqk HVS
      have hd1' := HA.out.dy _ (List.getElem_mem hkl)
      have hd2' := HB.out.dy _ (List.getElem_mem hkm)
      have HAD := Lib.hid (fun W (h : Below w.heap.size w W) => add03_any _ _ _ _ W (hd1'.below h).v (hd2'.below h).v hqk)
      have KA := Lib.hid (fun Y (h : Below w.heap.size w Y) => (HA.out.below h).at hkl)
      have KB := Lib.hid (fun Y (h : Below w.heap.size w Y) => (HB.out.below h).at hkm)
      unfold dyV at HAD
      have HO := Lib.hid hown; have HOL := Lib.hid hol; have HBL := Lib.hid hbel; have HSZ := Lib.hid hbel.size
      clear hd1 hd2 hqk hown hol hval hAk hBk hd1' hd2'
      generalize l[k].1.v + m[k].1.v = sv at *
      generalize hx : l[k] = x at *
      generalize hy : m[k] = y at *
      obtain ⟨d1, A1, p1⟩ := x
      obtain ⟨d2, A2, p2⟩ := y
      have HKE := Lib.hid (fun Y (h : Below w.heap.size w Y) => And.intro (KA.out Y h).1 (And.intro (KB.out Y h).1 h))
      dsimp only at a0 a1 a2 c0 c1 c2 HAD HKE
      clear hx hy hkl hkm KA KB
      have hbelW : Below w.heap.size w wr := hbel
      clear hbel a0 a1 a2 c0 c1 c2
      go_wp2_with fail
      go_region_held3 (fun Y => (Y.cell? ⟨b1, off1 + k * 3, none⟩ = some (.bool d1.neg) ∧ Y.cell? ⟨b1, off1 + k * 3 + 1, none⟩ = some (.slice A1 (nd d1.n).length p1) ∧ Y.cell? ⟨b1, off1 + k * 3 + 2, none⟩ = some (.int .i64 d1.e)) ∧ (Y.cell? ⟨b2, off2 + k * 3, none⟩ = some (.bool d2.neg) ∧ Y.cell? ⟨b2, off2 + k * 3 + 1, none⟩ = some (.slice A2 (nd d2.n).length p2) ∧ Y.cell? ⟨b2, off2 + k * 3 + 2, none⟩ = some (.int .i64 d2.e)) ∧ Below w.heap.size w Y)
        ((refine HKE.out _ ?_; (repeat (first | assumption | exact Below.refl _ _ | refine Below.allocs ?_ _ | refine Below.drews ?_ | refine Below.chain ?_ (by assumption)))))
        (first
          | (go_at_call 43; (refine (HAD.out _ (by repeat (first | assumption | exact Below.refl _ _ | refine Below.allocs ?_ _ | refine Below.drews ?_ | refine Below.chain ?_ (by assumption)))).mono ?_); rintro e w5 ⟨⟨v, rfl, hv⟩, hb5⟩; obtain ⟨d5, A5, c5, rfl, ha5, hv5⟩ := hv.a; have hb6 : Below wr.heap.size wr w5 := (Below.chain (Below.refl wr.heap.size wr).drew hb5); have HO5 := HO.out.call hb6; have hs5 := hb6.size; unfold dyV)
          | ((refine step_append_dy _ (by rfl) _ _ 30 Try.underlying30 (by rfl) w.heap.size _ o k HOL.out (by rfl) (HO5.call ((Below.refl _ _).alloc (Nat.le_refl _) _)) w5.heap.size (by rfl) (d5, A5, c5) (heap_alloc_new _ _) (ha5.below ((Below.refl _ _).alloc (Nat.le_refl _) _)) (by rw [World.size_alloc]; have := HSZ.out; omega) (by omega) ?_; intro g cap w3 hrow3 hb3; have hb7 : Below w.heap.size w w3 := ((Below.chain HBL.out hb6).alloc (by have := HSZ.out; omega) _).trans hb3)))
      go_wp2
      go_roundw
      case rel => exact ⟨k + 1, o ++ [(d5, A5, c5)], by omega, by go_num, hrow3, by rw [List.length_append, HOL.out]; rfl, HVS.out _ hv5, hb7⟩
      case measure => simp [intOf]; omega
    · obtain rfl : k = l.length := by omega
      obtain ⟨C, c3, rfl, hL⟩ := hown.list
      have HL := Lib.hid hL; have HVAL := Lib.hid hval; have HBL := Lib.hid hbel
      rw [hol]
      have HOL := Lib.hid hol
      clear hown hL hval hbel hol
      go_wp2
      go_ret2
      exact ⟨⟨C, o, c3, by rw [HOL.out]; rfl, HL.out, HOL.out, HVAL.out⟩, HBL.out⟩
end Go.Proofs.Ytdpmpfbbfknlmaa

/- Contract of the document's rows of products: Row. -/
set_option linter.unusedVariables false
namespace Lev
/-- The products of the numbers t 0 .. t (n-1), row by row: the rows below i. -/
def gramR (t : Nat → Rat) (n : Nat) : Nat → List Rat
  | 0 => []
  | i + 1 => gramR t n i ++ (List.range (n - i)).map (fun s => t i * t (i + s))
theorem gram_snoc (t : Nat → Rat) (i s : Nat) : (List.range (s + 1)).map (fun s => t i * t (i + s)) = (List.range s).map (fun s => t i * t (i + s)) ++ [t i * t (i + s)] := by
  rw [List.range_succ, List.map_append]; rfl
theorem gram_len (t : Nat → Rat) (n : Nat) : ∀ i, (gramR t n i).length ≤ n * i
  | 0 => Nat.zero_le _
  | i + 1 => by
    show (gramR t n i ++ _).length ≤ _
    rw [List.length_append, List.length_map, List.length_range]
    have := gram_len t n i
    rw [Nat.mul_succ]; omega
end Lev
namespace Go.Proofs.Ytdpmpfbbfknlmaa
open Go.RowKit Go.Shelf Lev

theorem Bk.two {w : World} {g : Nat} {t : TypeId} {v0 v1 : Value} (h : Bk w g t #[v0, v1]) : w.cell? ⟨g, 0, none⟩ = some v0 ∧ w.cell? ⟨g, 1, none⟩ = some v1 := ⟨h.cell 0, h.cell 1⟩
theorem DyRow.listAt {w : World} {base n c : Nat} {A : Option Addr} {o : List DyE} (h : DyRow w base (.slice A n c) o) : DyL w A o c := by
  obtain ⟨A2, c2, e, h2⟩ := h.list
  injection e with e1 e2 e3
  subst e1; subst e3
  exact h2
theorem wpList_append_dy {ops : Array Oper} {rest : List Oper} {ob : Oper} {a : Act} {Q : Exit → Act → World → Prop} (w : World) (hgd : ob.guard = none) (s y : Operand) (t : TypeId) (ht : Try.prog.underlying t = some (.slice 49))
    (ho : ob.op = .call { callee := .builtin .append, args := #[s, y], argTypes := #[t, t] })
    (base : Nat) (v : Value) (o : List DyE) (n : Nat) (hn : o.length = n) (hs : a.eval s = v) (hr : DyRow w base v o) (B : Nat) (hx : a.eval y = .slice (some ⟨B, 0, none⟩) 1 1)
    (x : DyE) (hB : w.heap[B]? = some (.cells (dyF x).toArray 49 (0, 0))) (hd : DyA w x.1 x.2.1 x.2.2) (hbase : base ≤ w.heap.size) (hlen : n ≤ 1000)
    (h : ∀ g cap w', DyRow w' base (.slice (some ⟨g, 0, none⟩) (n + 1) cap) (o ++ [x]) → Below base w w' → wpList Try.prog ops Q rest (a.put ob.dst (.slice (some ⟨g, 0, none⟩) (n + 1) cap)) w') : wpList Try.prog ops Q (ob :: rest) a w :=
  wpList_plain hgd fun _ hK => wp_append_dy w s y t ht ho base v o n hn hs hr B hx x hB hd hbase hlen fun g cap w' h2 h3 => hK _ _ (h g cap w' h2 h3)

set_option maxRecDepth 100000 in
set_option maxHeartbeats 2000000 in
theorem row08_any (xs : List Nat) (y : Nat) (A : Option Addr) (ca : Nat) (w : World) (hx : SlArg w A xs ca) (hl : 1 ≤ xs.length ∧ xs.length ≤ 6) (hfx : ∀ i, i < xs.length → fin (ge xs i)) (hy : y < 18446744073709551616) (hfy : fin y) (t : Nat → Rat) (ht : ∀ i, i < xs.length → t i = fv (ge xs i)) (hty : t xs.length = fv y) :
    Calls Try.prog 34 #[.agg #[.slice A xs.length ca, .float .f64 y]] w fun e w' => (∃ C o c, e = .returned (.tuple #[.slice C o.length c, .bool true]) ∧ DyL w' C o c ∧ o.map (fun x => x.1.v) = gramR t (xs.length + 1) (xs.length + 1)) ∧ Below w.heap.size w w' := by
  obtain ⟨W0, hW0⟩ : ∃ W0, W0 = w.alloc (.cells #[.slice A xs.length ca, .float .f64 y] 69) := ⟨_, rfl⟩
  have hb0 : Bk W0 w.heap.size 69 #[.slice A xs.length ca, .float .f64 y] := by rw [hW0]; exact Bk.new _ _ _
  have hbe : Below w.heap.size w W0 := by rw [hW0]; exact (Below.refl _ _).alloc (Nat.le_refl _) _
  have hs0 : w.heap.size + 1 = W0.heap.size := by rw [hW0, World.size_alloc]
  have hx0 := hx.below hbe
  have HX := Lib.hid hx0; have HB0 := Lib.hid hb0; have HBE := Lib.hid hbe; have HS0 := Lib.hid hs0
  have HT := Lib.hid ht; have HTY := Lib.hid hty
  have HFX := Lib.hid (fun i hi W => from03_any (ge xs i) (hx.reads.lt i) (hfx i hi) W)
  have HFY := Lib.hid (fun W => from03_any y hy hfy W)
  have HFI := Lib.hid hfx; have HFJ := Lib.hid hfy
  have HSI := Lib.hid (fun W => rsize_any (xs.length : Int) W)
  have hsz : sizeI (xs.length : Int) = ((xs.length : Int) + 1) * ((xs.length : Int) + 2) / 2 := by unfold sizeI; rw [if_neg (by omega)]
  have hsz0 : ((sizeI (xs.length : Int)) == 0) = false := by
    rw [hsz, beq_eq_false_iff_ne]
    have h1 : xs.length = 1 ∨ xs.length = 2 ∨ xs.length = 3 ∨ xs.length = 4 ∨ xs.length = 5 ∨ xs.length = 6 := by omega
    rcases h1 with e | e | e | e | e | e <;> rw [e] <;> decide
  have HW := Lib.hid hW0
  obtain ⟨r0, r1⟩ := hb0.two
  generalize sizeI (xs.length : Int) = sz at *
  clear hx hfx hy hfy ht hty hb0 hbe hs0 hx0 hsz
  rw [hW0] at r0 r1
  clear hW0
  go_enter Try.func34, Try.ntmps34
  go_wp2_with fail
  rw [← HW.out]
  refine (HSI.out _).mono ?_
  rintro e w1 ⟨rfl, rfl⟩
  clear r0 r1
  go_wp2_with fail
  go_loopw [4, 5] (fun v i wr => ∃ (k : Nat) (o : List DyE), k ≤ xs.length ∧ i = .int .i64 (k : Int) ∧ DyRow wr W0.heap.size v o ∧ o.length = k ∧ (∀ j (h : j < o.length), o[j].1.v = t j) ∧ Below W0.heap.size W0 wr) (fun _ i _ => xs.length - (intOf i).toNat)
  case atStart => exact ⟨0, [], Nat.zero_le _, rfl, DyRow.nil _ _, rfl, fun j h => absurd h (Nat.not_lt_zero _), Below.refl _ _⟩
  case round =>
    obtain ⟨k, o, hk, rfl, hrow, hol, hval, hbel⟩ := hrel
    obtain ⟨r0, r1⟩ := (HB0.out.below hbel HB0.out.lt).two
    have HR := Lib.hid hrow; have HOL := Lib.hid hol; have HVAL := Lib.hid hval; have HBL := Lib.hid hbel; have HSZ := Lib.hid hbel.size
    have hXr := HX.out.below hbel
    clear hrow hol hval hbel
    by_cases hlt : (k : Int) < (xs.length : Int)
    · have hkx : k < xs.length := by omega
      obtain ⟨ba, oa, rfl, _, hca⟩ := hXr.reads.2 (by omega)
      have hcell := hca k hkx
      have H1 := Lib.hid (HFX.out k hkx)
      have HTK := Lib.hid (HT.out k hkx)
      clear hca hkx hXr
      change wr.cell? ⟨ba, oa + k, none⟩ = some (.float .f64 (ge xs k)) at hcell
      go_wp2_with fail
      refine (H1.out _).mono ?_
      rintro e w1 ⟨⟨v, rfl, hv⟩, hb1⟩
      obtain ⟨d1, A1, c1, rfl, ha1, hv1⟩ := hv.a
      have hbb : Below w1.heap.size w1 ((w1.alloc (.cells #[.bool d1.neg, .slice A1 (nd d1.n).length c1, .int .i64 d1.e] 49)).alloc (.cells #[.bool d1.neg, .slice A1 (nd d1.n).length c1, .int .i64 d1.e] 49)) := ((Below.refl _ _).alloc (Nat.le_refl _) _).alloc (by rw [World.size_alloc]; omega) _
      have hBB := heap_alloc_new (w1.alloc (.cells #[.bool d1.neg, .slice A1 (nd d1.n).length c1, .int .i64 d1.e] 49)) (.cells #[.bool d1.neg, .slice A1 (nd d1.n).length c1, .int .i64 d1.e] 49)
      rw [World.size_alloc] at hBB
      have hs1 := hb1.size
      unfold dyV
      clear hv hcell
      go_wp2_with (at_builtin; refine wpList_append_dy _ (by rfl) _ _ 30 Try.underlying30 (by rfl) W0.heap.size _ o k HOL.out (by rfl) ((HR.out.call hb1).call hbb) (w1.heap.size + 1) (by rfl) (d1, A1, c1) hBB (ha1.below hbb) (by rw [World.size_alloc, World.size_alloc]; have := HSZ.out; omega) (by omega) ?_; intro g cap w3 hrow3 hb3)
      go_roundw
      case rel => 
        have hv7 := vals_snoc (f := t) HVAL.out HOL.out (x := (d1, A1, c1)) (by rw [HTK.out]; exact hv1)
        exact ⟨k + 1, o ++ [(d1, A1, c1)], by omega, by go_num, hrow3, by rw [List.length_append, HOL.out]; rfl, hv7, (Below.chain (Below.chain HBL.out hb1) hbb).trans hb3⟩
      case measure => simp [intOf]; omega
    · obtain rfl : k = xs.length := by omega
      have H1 := Lib.hid HFY.out
      clear hXr
      go_wp2_with fail
      refine (H1.out _).mono ?_
      rintro e w1 ⟨⟨v, rfl, hv⟩, hb1⟩
      obtain ⟨d1, A1, c1, rfl, ha1, hv1⟩ := hv.a
      have hbb : Below w1.heap.size w1 ((w1.alloc (.cells #[.bool d1.neg, .slice A1 (nd d1.n).length c1, .int .i64 d1.e] 49)).alloc (.cells #[.bool d1.neg, .slice A1 (nd d1.n).length c1, .int .i64 d1.e] 49)) := ((Below.refl _ _).alloc (Nat.le_refl _) _).alloc (by rw [World.size_alloc]; omega) _
      have hBB := heap_alloc_new (w1.alloc (.cells #[.bool d1.neg, .slice A1 (nd d1.n).length c1, .int .i64 d1.e] 49)) (.cells #[.bool d1.neg, .slice A1 (nd d1.n).length c1, .int .i64 d1.e] 49)
      rw [World.size_alloc] at hBB
      have hs1 := hb1.size
      unfold dyV
      clear hv
      go_wp2_with (at_builtin; refine wpList_append_dy _ (by rfl) _ _ 30 Try.underlying30 (by rfl) W0.heap.size _ o xs.length HOL.out (by rfl) ((HR.out.call hb1).call hbb) (w1.heap.size + 1) (by rfl) (d1, A1, c1) hBB (ha1.below hbb) (by rw [World.size_alloc, World.size_alloc]; have := HSZ.out; omega) (by omega) ?_; intro g cap w3 hrow3 hb3)
      have HB3 := Lib.hid ((Below.chain (Below.chain HBL.out hb1) hbb).trans hb3)
      have HV := Lib.hid (vals_snoc (f := t) HVAL.out HOL.out (x := (d1, A1, c1)) (by rw [HTY.out]; exact hv1))
      have HL := Lib.hid hrow3.listAt
      have hlo : (o ++ [(d1, A1, c1)]).length = xs.length + 1 := by rw [List.length_append, HOL.out]; rfl
      clear hbb hBB hs1 hb3 hrow3 HR HOL HVAL HBL HSZ hb1 ha1 hv1
      generalize o ++ [(d1, A1, c1)] = l at *
      generalize hN : xs.length + 1 = N at *
      obtain ⟨bL, oL, hA, hbL, _⟩ := HL.out.reads (by omega)
      injection hA with hA
      injection hA with hA1 hA2
      subst hA1; subst hA2
      have HRT := Lib.hid (show ∀ i, i < N → R 1074 1025 (t i) from fun i hi => by
        by_cases h : i < xs.length
        · rw [HT.out i h]; exact R_fv (HFI.out i h)
        · obtain rfl : i = xs.length := by omega
          rw [HTY.out]; exact R_fv HFJ.out)
      have HLO := Lib.hid hlo
      clear hlo
      go_wp2_with fail
      go_loopw [10, 11] (fun v i wr => ∃ (k : Nat) (o2 : List DyE), k ≤ N ∧ i = .int .i64 (k : Int) ∧ DyRow wr w3.heap.size v o2 ∧ o2.map (fun x => x.1.v) = gramR t N k ∧ Below w3.heap.size w3 wr) (fun _ i _ => N - (intOf i).toNat)
      case atStart => exact ⟨0, [], Nat.zero_le _, rfl, DyRow.nil _ _, rfl, Below.refl _ _⟩
      case round =>
        obtain ⟨k, o2, hk, rfl, hrow, hval, hbel⟩ := hrel
        have HR := Lib.hid hrow; have HVAL := Lib.hid hval; have HBL := Lib.hid hbel
        clear hrow hval hbel
        by_cases hlt : (k : Int) < (N : Int)
        · go_wp2_with fail
          go_loopw [10, 12] (fun v i wr => ∃ (s : Nat) (o2 : List DyE), k + s ≤ N ∧ i = .int .i64 ((k + s : Nat) : Int) ∧ DyRow wr w3.heap.size v o2 ∧ o2.map (fun x => x.1.v) = gramR t N k ++ (List.range s).map (fun s => t k * t (k + s)) ∧ Below w3.heap.size w3 wr) (fun _ i _ => N - (intOf i).toNat)
          case atStart => exact ⟨0, o2, hk, rfl, HR.out, by rw [HVAL.out]; simp, HBL.out⟩
          case round =>
            obtain ⟨s, o3, hks, rfl, hrow, hval, hbel⟩ := hrel
            have hol : o3.length = (gramR t N k).length + s := by rw [← List.length_map (f := fun x : DyE => x.1.v), hval, List.length_append, List.length_map, List.length_range]
            have hgl := gram_len t N k
            have hN7 : N * k ≤ 7 * 7 := Nat.mul_le_mul (by omega) (by omega)
            have hol2 : o3.length ≤ 1000 := by omega
            have HR3 := Lib.hid hrow; have HVAL3 := Lib.hid hval; have HBL3 := Lib.hid hbel; have HSZ3 := Lib.hid hbel.size
            clear hrow hval hgl hN7 hol HR HVAL HBL
            by_cases hlt2 : ((k + s : Nat) : Int) < (N : Int)
            · have hkl : k < l.length := by rw [HLO.out]; omega
              have hkm : k + s < l.length := by rw [HLO.out]; omega
              have hAk := HL.out.below hbel
              obtain ⟨⟨a0, a1, a2⟩, hd1⟩ := hAk.at hkl
              obtain ⟨⟨c0, c1, c2⟩, hd2⟩ := hAk.at hkm
              have hv1 := HV.out k hkl
              have hv2 := HV.out (k + s) hkm
              have hqk : Q (t k * t (k + s)) := R_Q (R_mul (HRT.out k (by omega)) (HRT.out (k + s) (by omega))) (by omega) (by omega)
              have hd1' := HL.out.dy _ (List.getElem_mem hkl)
              have hd2' := HL.out.dy _ (List.getElem_mem hkm)
              rw [← hv1, ← hv2] at hqk
              have HMU := Lib.hid (fun W (h : Below w3.heap.size w3 W) => mul03_any _ _ _ _ W (hd1'.below h).v (hd2'.below h).v hqk)
              rw [hv1, hv2] at HMU
              have KA := Lib.hid (fun Y (h : Below w3.heap.size w3 Y) => (HL.out.below h).at hkl)
              have KB := Lib.hid (fun Y (h : Below w3.heap.size w3 Y) => (HL.out.below h).at hkm)
              unfold dyV at HMU
              have hvs : ∀ x : DyE, x.1.v = t k * t (k + s) → (o3 ++ [x]).map (fun x => x.1.v) = gramR t N k ++ (List.range (s + 1)).map (fun s => t k * t (k + s)) := fun x hx => by
                rw [List.map_append, HVAL3.out, gram_snoc, List.append_assoc]
                show _ ++ (_ ++ [x.1.v]) = _
                rw [hx]
              have HVS := Lib.hid hvs
              clear hd1 hd2 hqk hAk hd1' hd2' hv1 hv2 hvs
              have hlt3 : ((k + s : Nat) : Int) < (l.length : Int) := by omega
              have hlt4 : (k : Int) < (l.length : Int) := by omega
              generalize hx : l[k] = x at *
              generalize hy : l[k + s] = y' at *
              obtain ⟨d1, A1, p1⟩ := x
              obtain ⟨d2, A2, p2⟩ := y'
              have HKE := Lib.hid (fun Y (h : Below w3.heap.size w3 Y) => And.intro (KA.out Y h).1 (And.intro (KB.out Y h).1 h))
              dsimp only at a0 a1 a2 c0 c1 c2 HMU HKE
              clear hx hy hkl hkm KA KB
              have hbelW : Below w3.heap.size w3 wr := hbel
              clear hbel a0 a1 a2 c0 c1 c2
              simp only [Nat.zero_add] at HKE
              generalize hJ : k + s = J at *
              have HJ := Lib.hid hJ
              clear hJ
              go_wp2_with fail
              go_region_held3 (fun Y => (Y.cell? ⟨g, k * 3, none⟩ = some (.bool d1.neg) ∧ Y.cell? ⟨g, k * 3 + 1, none⟩ = some (.slice A1 (nd d1.n).length p1) ∧ Y.cell? ⟨g, k * 3 + 2, none⟩ = some (.int .i64 d1.e)) ∧ (Y.cell? ⟨g, J * 3, none⟩ = some (.bool d2.neg) ∧ Y.cell? ⟨g, J * 3 + 1, none⟩ = some (.slice A2 (nd d2.n).length p2) ∧ Y.cell? ⟨g, J * 3 + 2, none⟩ = some (.int .i64 d2.e)) ∧ Below w3.heap.size w3 Y)
                ((refine HKE.out _ ?_; (repeat (first | assumption | exact Below.refl _ _ | refine Below.allocs ?_ _ | refine Below.drews ?_ | refine Below.chain ?_ (by assumption)))))
                (first
                  | (go_at_call 17; (refine (HMU.out _ (by repeat (first | assumption | exact Below.refl _ _ | refine Below.allocs ?_ _ | refine Below.drews ?_ | refine Below.chain ?_ (by assumption)))).mono ?_); rintro e w5 ⟨⟨v, rfl, hv⟩, hb5⟩; obtain ⟨d5, A5, c5, rfl, ha5, hv5⟩ := hv.a; have hb6 : Below wr.heap.size wr w5 := (Below.chain (Below.refl wr.heap.size wr).drew hb5); have HO5 := HR3.out.call hb6; have hs5 := hb6.size; unfold dyV)
                  | ((refine step_append_dy _ (by rfl) _ _ 30 Try.underlying30 (by rfl) w3.heap.size _ o3 o3.length rfl (by rfl) (HO5.call ((Below.refl _ _).alloc (Nat.le_refl _) _)) w5.heap.size (by rfl) (d5, A5, c5) (heap_alloc_new _ _) (ha5.below ((Below.refl _ _).alloc (Nat.le_refl _) _)) (by rw [World.size_alloc]; have := HSZ3.out; omega) hol2 ?_; intro g7 cap7 w7 hrow7 hb3; have hb7 : Below w3.heap.size w3 w7 := ((Below.chain HBL3.out hb6).alloc (by have := HSZ3.out; omega) _).trans hb3)))
              go_wp2
              go_roundw
              case rel => exact ⟨s + 1, o3 ++ [(d5, A5, c5)], by have := HJ.out; omega, by rw [show k + (s + 1) = J + 1 from by rw [← HJ.out]; rfl]; go_num, hrow7, HVS.out _ hv5, hb7⟩
              case measure => simp [intOf]; omega
            · obtain rfl : s = N - k := by omega
              go_wp2_with fail
              go_roundw
              case rel => exact ⟨k + 1, o3, by omega, by go_num, HR3.out, HVAL3.out, HBL3.out⟩
              case measure => simp [intOf]; omega
        · obtain rfl : k = N := by omega
          obtain ⟨C, c3, rfl, hL⟩ := HR.out.list
          have HL2 := Lib.hid hL
          clear hL
          go_wp2
          go_ret2
          exact ⟨⟨C, o2, c3, rfl, HL2.out, HVAL.out⟩, HBE.out.trans (((HB3.out.trans (HBL.out.mono HB3.out.size))).mono (by have := HS0.out; omega))⟩
end Go.Proofs.Ytdpmpfbbfknlmaa

/- Contracts of the document's lists of dyads: Zero. -/
set_option linter.unusedVariables false
namespace Go.Proofs.Ytdpmpfbbfknlmaa
open Go.RowKit Go.Shelf Lev

set_option maxRecDepth 100000 in
set_option maxHeartbeats 1000000 in
theorem zero08_any (C : Int) (hC : 1 ≤ C ∧ C ≤ 6) (w : World) :
    Calls Try.prog 33 #[.int .i64 C] w fun e w' => (∃ B c, e = .returned (.slice B (sizeI C).toNat c) ∧ DyL w' B (List.replicate (sizeI C).toNat (Dy.zero, none, 0)) c) ∧ Below w.heap.size w w' := by
  obtain ⟨i0, hi, hz0, hz1, hz2⟩ := info_parts info_dy
  have HSI := Lib.hid (fun W => rsize_any C W)
  have hsz : 3 ≤ sizeI C ∧ sizeI C ≤ 28 := by
    have h : C = 1 ∨ C = 2 ∨ C = 3 ∨ C = 4 ∨ C = 5 ∨ C = 6 := by omega
    rcases h with e | e | e | e | e | e <;> rw [e] <;> decide
  obtain ⟨n, hn⟩ : ∃ n : Nat, sizeI C = n := ⟨(sizeI C).toNat, by omega⟩
  rw [hn] at HSI hsz ⊢
  rw [Int.toNat_natCast]
  clear hn
  have hmk : ∀ w : World, (Instr.makeSlice 30 (.int .i64 (n : Int)) (.int .i64 (n : Int))).run Try.prog w = .ok (.slice (some ⟨w.heap.size, 0, none⟩) n n) (w.alloc (.cells (madeCells #[.bool false, .slice none 0 0, .int .i64 0] (3 * n)) 49)) := fun w => by
    have h := run_make (P := Try.prog) w 30 49 i0 _ Try.underlying30 hi hz0 .i64 .i64 (n : Int) (n : Int) (by omega) (by omega) (by rw [hz2]; omega) (by omega)
    rw [hz1, Int.toNat_natCast, Nat.mul_comm] at h
    exact h
  clear hi hz0 hz1 hz2
  go_enter Try.func33, Try.ntmps33
  go_wp2_with fail
  refine (HSI.out _).mono ?_
  rintro e w1 ⟨rfl, rfl⟩
  go_wp2
  go_ret
  exact ⟨⟨_, n, rfl, DyL.zeros w n (by omega) _⟩, (Below.refl _ _).alloc (Nat.le_refl _) _⟩
end Go.Proofs.Ytdpmpfbbfknlmaa

/- Memory: slices of rows of floats, and append to them. -/
set_option linter.unusedVariables false
namespace Go.Proofs.Ytdpmpfbbfknlmaa
open Go.RowKit Go.Shelf Lev

/-- A row: the place, the numbers, the room; the last number. -/
abbrev RwE := Option Addr × List Nat × Nat × Nat
def rwF (x : RwE) : List Value := [.slice x.1 x.2.1.length x.2.2.1, .float .f64 x.2.2.2]
def flatW : List RwE → List Value
  | [] => []
  | x :: l => rwF x ++ flatW l
theorem flatW_len : ∀ l : List RwE, (flatW l).length = 2 * l.length
  | [] => rfl
  | x :: l => by
    show (rwF x ++ flatW l).length = 2 * (l.length + 1)
    rw [List.length_append, flatW_len l]; show 2 + _ = _; omega
theorem flatW_append : ∀ (l m : List RwE), flatW (l ++ m) = flatW l ++ flatW m
  | [], m => rfl
  | x :: l, m => by
    show rwF x ++ flatW (l ++ m) = rwF x ++ flatW l ++ flatW m
    rw [flatW_append l m, List.append_assoc]
theorem flatW_snoc (l : List RwE) (x : RwE) : flatW (l ++ [x]) = flatW l ++ rwF x := by rw [flatW_append]; show flatW l ++ (rwF x ++ []) = _; rw [List.append_nil]
theorem rwF_one (x : RwE) : ∀ u ∈ rwF x, u.oneCell' = true := fun u h => by
  unfold rwF at h
  rcases List.mem_cons.1 h with rfl | h
  · rfl
  · rw [List.mem_singleton.1 h]; rfl
theorem flatW_get : ∀ (l : List RwE) (j : Nat) (hj : j < l.length) (k : Nat), k < 2 → (flatW l)[2 * j + k]? = (rwF l[j])[k]?
  | [], j, hj, _, _ => absurd hj (Nat.not_lt_zero _)
  | x :: l, 0, _, k, hk => by
    show (rwF x ++ flatW l)[2 * 0 + k]? = (rwF x)[k]?
    rw [Nat.mul_zero, Nat.zero_add, List.getElem?_append_left (by show k < 2; exact hk)]
  | x :: l, j + 1, hj, k, hk => by
    show (rwF x ++ flatW l)[2 * (j + 1) + k]? = _
    rw [List.getElem?_append_right (by show 2 ≤ _; omega), show 2 * (j + 1) + k - (rwF x).length = 2 * j + k from by show 2 * (j + 1) + k - 2 = _; omega]
    exact flatW_get l j (by simpa using hj) k hk

theorem SlArg.grown {w w' : World} {A : Option Addr} {xs : List Nat} {c : Nat} {row : Option Nat} (h : SlArg w A xs c) (hg : w.grownBy w' row) (hne : 0 < xs.length → ∀ a, A = some a → some a.block ≠ row) : SlArg w' A xs c := by
  refine ⟨⟨h.reads.1, fun hl => ?_⟩, h.cap, h.room⟩
  obtain ⟨b, off, e, hb, hc⟩ := h.reads.2 hl
  refine ⟨b, off, e, Nat.lt_of_lt_of_le hb hg.size, fun j hj => ?_⟩
  rw [World.cell?_of_block (w := w) (hg.block b hb (hne hl _ e))]
  exact hc j hj
theorem SlArg.blk {w : World} {A : Option Addr} {xs : List Nat} {c : Nat} (h : SlArg w A xs c) (hl : 0 < xs.length) : ∀ a, A = some a → a.block < w.heap.size := fun a ha => by
  obtain ⟨b, off, e, hb, _⟩ := h.reads.2 hl
  rw [e] at ha
  cases ha
  exact hb
theorem SlArg.first {w : World} {A : Option Addr} {xs : List Nat} {c n : Nat} (h : SlArg w A xs c) (hn : n ≤ xs.length) : SlArg w A (xs.take n) c := by
  have hl : (xs.take n).length = n := by rw [List.length_take]; omega
  refine ⟨⟨fun x hx => h.reads.1 x (List.mem_of_mem_take hx), fun h0 => ?_⟩, by have := h.cap; omega, h.room⟩
  obtain ⟨b, off, e, hb, hc⟩ := h.reads.2 (by omega)
  refine ⟨b, off, e, hb, fun j hj => ?_⟩
  rw [hc j (by omega), List.getElem?_take_of_lt (by omega)]

/-- The slice of address A holds the rows l. -/
structure RwL (W : World) (A : Option Addr) (l : List RwE) (c : Nat) : Prop where
  reads : 0 < l.length → ∃ b off, A = some ⟨b, off, none⟩ ∧ b < W.heap.size ∧ ∀ j, j < 2 * l.length → W.cell? ⟨b, off + j, none⟩ = (flatW l)[j]?
  sl : ∀ x ∈ l, SlArg W x.1 x.2.1 x.2.2.1
  cap : l.length ≤ c
  room : c ≤ 9223372036854775807
theorem RwL.below {w w' : World} {A : Option Addr} {l : List RwE} {c : Nat} (h : RwL w A l c) (hb : Below w.heap.size w w') : RwL w' A l c :=
  ⟨fun hl => by
    obtain ⟨b, off, e, hB, hc⟩ := h.reads hl
    exact ⟨b, off, e, Nat.lt_of_lt_of_le hB hb.size, fun j hj => (hb.cell (p := ⟨b, off + j, none⟩) hB).trans (hc j hj)⟩, fun x hx => (h.sl x hx).below hb, h.cap, h.room⟩
theorem RwL.at {w : World} {b off : Nat} {l : List RwE} {c : Nat} (h : RwL w (some ⟨b, off, none⟩) l c) {j : Nat} (hj : j < l.length) :
    (w.cell? ⟨b, off + j * 2, none⟩ = some (.slice l[j].1 l[j].2.1.length l[j].2.2.1) ∧ w.cell? ⟨b, off + j * 2 + 1, none⟩ = some (.float .f64 l[j].2.2.2)) ∧ SlArg w l[j].1 l[j].2.1 l[j].2.2.1 := by
  obtain ⟨b', off', e, _, hc⟩ := h.reads (by omega)
  cases e
  rw [Nat.mul_comm j 2]
  refine ⟨⟨?_, ?_⟩, h.sl _ (List.getElem_mem hj)⟩
  · have := hc (2 * j + 0) (by omega); rw [flatW_get l j hj 0 (by omega)] at this; exact this
  · have := hc (2 * j + 1) (by omega); rw [flatW_get l j hj 1 (by omega)] at this; rw [Nat.add_assoc]; exact this

/-- A row of rows that the walk owns. -/
structure RwRow (W : World) (base : Nat) (v : Value) (o : List RwE) : Prop where
  own : W.ownsRow base 69 2 v o.length (flatW o)
  sl : ∀ x ∈ o, SlArg W x.1 x.2.1 x.2.2.1 ∧ 0 < x.2.1.length
  far : ∀ g, v.ownBlock = some g → ∀ x ∈ o, ∀ a, x.1 = some a → a.block ≠ g
theorem RwRow.nil (W : World) (base : Nat) : RwRow W base (.slice none 0 0) [] := ⟨World.ownsRow_nil _ _ _ _, fun x hx => absurd hx List.not_mem_nil, fun g _ x hx => absurd hx List.not_mem_nil⟩
theorem RwRow.call {w w' : World} {base : Nat} {v : Value} {o : List RwE} (h : RwRow w base v o) (hb : Below w.heap.size w w') : RwRow w' base v o :=
  ⟨own3_below h.own hb, fun x hx => ⟨(h.sl x hx).1.below hb, (h.sl x hx).2⟩, h.far⟩
theorem RwRow.list {w : World} {base : Nat} {v : Value} {o : List RwE} (h : RwRow w base v o) : ∃ A c, v = .slice A o.length c ∧ RwL w A o c := by
  rcases h.own.2 with ⟨rfl, h0⟩ | ⟨g, cap, cur, rfl, hb, hg, hn, hc, _, ht⟩
  · obtain rfl := List.eq_nil_of_length_eq_zero h0
    exact ⟨none, 0, rfl, ⟨fun h => absurd h (by decide), fun x hx => absurd hx List.not_mem_nil, Nat.le_refl _, by decide⟩⟩
  · have hbk : Bk w g 69 cur := hg
    refine ⟨_, _, rfl, ⟨fun _ => ⟨g, 0, rfl, hbk.lt, fun j hj => ?_⟩, fun x hx => (h.sl x hx).1, hn, hc⟩⟩
    rw [Nat.zero_add, hbk.cell, ← ht]
    rw [List.getElem?_take_of_lt (by rw [Nat.mul_comm]; exact hj), Array.getElem?_toList]
theorem RwRow.own_lt {w : World} {base : Nat} {v : Value} {o : List RwE} (h : RwRow w base v o) : ∀ g, v.ownBlock = some g → g < w.heap.size := fun g hg => by
  rcases h.own.2 with ⟨rfl, h0⟩ | ⟨g1, cap, cur, rfl, hb, hg1, _⟩
  · simp [Value.ownBlock] at hg
  · obtain rfl : g1 = g := by simpa [Value.ownBlock] using hg
    exact (Array.getElem?_eq_some_iff.1 hg1).1

theorem info_rw : (Try.prog.info? 69).map (fun i => (i.zero, i.size, i.bytes)) = some (some (.agg #[.slice none 0 0, .float .f64 0]), 2, 32) := by kernel_rfl

/-- One row is appended. -/
theorem run_append_rw (w : World) (t ty : TypeId) (ht : Try.prog.underlying t = some (.slice 69)) (base : Nat) (v : Value) (o : List RwE) (hr : RwRow w base v o) (B : Nat) (x : RwE) (hB : w.heap[B]? = some (.cells (rwF x).toArray 69 (0, 0))) (hd : SlArg w x.1 x.2.1 x.2.2.1) (hd0 : 0 < x.2.1.length) (hf : ∀ g, v.ownBlock = some g → ∀ a, x.1 = some a → a.block ≠ g) (hbase : base ≤ w.heap.size) (hlen : o.length ≤ 1000) :
    ∃ g cap w', (Builtin.append_ #[t, t] ty #[v, .slice (some ⟨B, 0, none⟩) 1 1]).run Try.prog w = .ok (.slice (some ⟨g, 0, none⟩) (o.length + 1) cap) w' ∧ RwRow w' base (.slice (some ⟨g, 0, none⟩) (o.length + 1) cap) (o ++ [x]) ∧ w.grownBy w' v.ownBlock := by
  obtain ⟨i, hi, hz, hs, hby⟩ := info_parts info_rw
  have hnews : ∀ j u, (rwF x)[j]? = some u → w.cell? ((⟨B, 0, none⟩ : Addr).add j) = some u := World.news_of_block hB
  obtain ⟨g, cap, w', hrun, hown, hgr, hat, _⟩ := run_append_lies (P := Try.prog) w t ty base 69 i (.agg #[.slice none 0 0, .float .f64 0]) 2 32 ht hi hz hs hby (by rfl) (by decide) v o.length (flatW o) hr.own ⟨B, 0, none⟩ 1 1 (rwF x) (by rfl) hnews (rwF_one x) (by decide) (by unfold maxLen; omega) (by omega) hbase _ rfl
  have hfar : ∀ y ∈ o ++ [x], (SlArg w y.1 y.2.1 y.2.2.1 ∧ 0 < y.2.1.length) ∧ ∀ g, v.ownBlock = some g → ∀ a, y.1 = some a → a.block ≠ g := fun y hy => by
    rcases List.mem_append.1 hy with hy | hy
    · exact ⟨hr.sl y hy, fun g hg => hr.far g hg y hy⟩
    · rw [List.mem_singleton.1 hy]; exact ⟨⟨hd, hd0⟩, hf⟩
  refine ⟨g, cap, w', hrun, ⟨?_, ?_, ?_⟩, hgr⟩
  · rw [flatW_snoc, List.length_append]; exact hown
  · intro y hy
    obtain ⟨⟨h1, h2⟩, h3⟩ := hfar y hy
    exact ⟨h1.grown hgr (fun _ a ha e => h3 _ e.symm a ha rfl), h2⟩
  · intro g' hg' y hy a ha
    obtain rfl : g = g' := by simpa [Value.ownBlock] using hg'
    obtain ⟨⟨h1, h2⟩, h3⟩ := hfar y hy
    rcases hat with e | e
    · exact h3 _ e a ha
    · have := h1.blk h2 a ha
      omega
theorem wp_append_rw {ob : Oper} {a : Act} {K : Act → World → Prop} {Q : Exit → Act → World → Prop} (w : World) (s y : Operand) (t : TypeId) (ht : Try.prog.underlying t = some (.slice 69))
    (ho : ob.op = .call { callee := .builtin .append, args := #[s, y], argTypes := #[t, t] })
    (base : Nat) (v : Value) (o : List RwE) (n : Nat) (hn : o.length = n) (hs : a.eval s = v) (hr : RwRow w base v o) (B : Nat) (hx : a.eval y = .slice (some ⟨B, 0, none⟩) 1 1)
    (x : RwE) (hB : w.heap[B]? = some (.cells (rwF x).toArray 69 (0, 0))) (hd : SlArg w x.1 x.2.1 x.2.2.1) (hd0 : 0 < x.2.1.length) (hf : ∀ g, v.ownBlock = some g → ∀ a, x.1 = some a → a.block ≠ g) (hbase : base ≤ w.heap.size) (hlen : n ≤ 1000)
    (h : ∀ g cap w', RwRow w' base (.slice (some ⟨g, 0, none⟩) (n + 1) cap) (o ++ [x]) → Below base w w' → K (a.put ob.dst (.slice (some ⟨g, 0, none⟩) (n + 1) cap)) w') : ob.wp Try.prog a w K Q := by
  subst hn
  obtain ⟨g, cap, w', hrun, hrow, hgr⟩ := run_append_rw w t ob.type ht base v o hr B x hB hd hd0 hf hbase hlen
  unfold Oper.wp execOp
  simp only [ho, resolve, invoke, builtin, Sem.run_bind, Sem.run_pure, Result.andThen_ok, List.map_toArray, List.map_cons, List.map_nil, hs, hx, hrun]
  exact h g cap w' hrow ((Below.refl base w).grown hgr hbase (own3_from hr.own))
theorem step_append_rw {ops : Array Oper} {ob : Oper} {a : Act} {K : Act → World → Prop} {Q : Exit → Act → World → Prop} {E : Prop} (w : World) (hgd : ob.guard = none) (s y : Operand) (t : TypeId) (ht : Try.prog.underlying t = some (.slice 69))
    (ho : ob.op = .call { callee := .builtin .append, args := #[s, y], argTypes := #[t, t] })
    (base : Nat) (v : Value) (o : List RwE) (n : Nat) (hn : o.length = n) (hs : a.eval s = v) (hr : RwRow w base v o) (B : Nat) (hx : a.eval y = .slice (some ⟨B, 0, none⟩) 1 1)
    (x : RwE) (hB : w.heap[B]? = some (.cells (rwF x).toArray 69 (0, 0))) (hd : SlArg w x.1 x.2.1 x.2.2.1) (hd0 : 0 < x.2.1.length) (hf : ∀ g, v.ownBlock = some g → ∀ a, x.1 = some a → a.block ≠ g) (hbase : base ≤ w.heap.size) (hlen : n ≤ 1000)
    (h : ∀ g cap w', RwRow w' base (.slice (some ⟨g, 0, none⟩) (n + 1) cap) (o ++ [x]) → Below base w w' → K (a.put ob.dst (.slice (some ⟨g, 0, none⟩) (n + 1) cap)) w') :
    if Region.wanted ob (yielded ops a.tmps) = true then Oper.wp Try.prog ob a w K Q else E := by
  have hw : Region.wanted ob (yielded ops a.tmps) = true := by simp [Region.wanted, hgd]
  rw [if_pos hw]
  exact wp_append_rw w s y t ht ho base v o n hn hs hr B hx x hB hd hd0 hf hbase hlen h
end Go.Proofs.Ytdpmpfbbfknlmaa

/- Contract of the document's lines of a factor. -/
set_option linter.unusedVariables false
namespace Go.Proofs.Ytdpmpfbbfknlmaa
open Go.RowKit Go.Shelf Lev

theorem rws_snoc {P : Nat → RwE → Prop} {o : List RwE} (h : ∀ j (h : j < o.length), P j o[j]) {k : Nat} (hk : o.length = k) {x : RwE} (hx : P k x) : ∀ j (h : j < (o ++ [x]).length), P j (o ++ [x])[j] := fun j hj => by
  by_cases h1 : j < o.length
  · rw [List.getElem_append_left h1]; exact h j h1
  · have hjk : j = k := by rw [List.length_append] at hj; simp at hj; omega
    subst hjk
    rw [List.getElem_append_right (by omega)]
    simp only [hk, Nat.sub_self, List.getElem_cons_zero]
    exact hx

set_option maxRecDepth 100000 in
set_option maxHeartbeats 2000000 in
theorem lines08_any (f : Fct) (A : Option Addr) (ca : Nat) (w : World) (hx : SlArg w A f.xs ca) (hok : f.ok = true) (n : Nat) (hn : f.C = (n : Int)) :
    Calls Try.prog 15 #[facV f.C A f.xs.length ca f.R f.T] w fun e w' => (∃ B o c, e = .returned (.slice B o.length c) ∧ RwL w' B o c ∧ o.length = n + 1 ∧ ∀ j (h : j < o.length), o[j].2.1 = (lineS f j).take n ∧ o[j].2.2.2 = getS f j n) ∧ Below w.heap.size w w' := by
  have hn6 : 1 ≤ n ∧ n ≤ 6 := by have := ok_len hok; omega
  have hh : ∀ k : Nat, k ≤ n → hasS f k = true := fun k hk => hasS_iff.2 ⟨hok, by omega, by omega⟩
  have hlen : ∀ k : Nat, k ≤ n → (lineS f k).length = n + 1 := fun k hk => by rw [lineS_length (hh k hk)]; omega
  have hget : ∀ k : Nat, k ≤ n → (lineS f k)[n]?.getD 0 = getS f k n := fun k hk => lineS_get (hh k hk) (by omega)
  obtain ⟨W0, hW0⟩ : ∃ W0, W0 = w.alloc (.cells #[.int .i64 f.C, .slice A f.xs.length ca, .int .i64 f.R, .int .i64 f.T] 24) := ⟨_, rfl⟩
  have hb0 : Bk W0 w.heap.size 24 #[.int .i64 f.C, .slice A f.xs.length ca, .int .i64 f.R, .int .i64 f.T] := by rw [hW0]; exact Bk.new _ _ _
  have hbe : Below w.heap.size w W0 := by rw [hW0]; exact (Below.refl _ _).alloc (Nat.le_refl _) _
  have hs0 : w.heap.size + 1 = W0.heap.size := by rw [hW0, World.size_alloc]
  have hx0 := hx.below hbe
  have HX := Lib.hid hx0; have HB0 := Lib.hid hb0; have HBE := Lib.hid hbe; have HS0 := Lib.hid hs0; have HW := Lib.hid hW0
  have HLEN := Lib.hid hlen; have HGET := Lib.hid hget; have HN := Lib.hid hn
  have HLI := Lib.hid (fun (k : Nat) W hW => rline_any f A ca (k : Int) W hW)
  unfold facV at HLI ⊢
  rw [hn] at HLI HB0 ⊢
  rw [hn] at HW
  have hb0 := HB0.out
  obtain ⟨r0, r1, r2, r3⟩ := HB0.out.c4
  clear hx hok hn hh hlen hget hb0 hbe hs0 hx0 hW0
  rw [HW.out] at r0 r1 r2 r3
  go_enter Try.func15, Try.ntmps15
  go_wp2_with fail
  rw [← HW.out] at r0 r1 r2 r3 ⊢
  go_loopw [3, 4] (fun v i wr => ∃ (k : Nat) (o : List RwE), k ≤ n + 1 ∧ i = .int .i64 (k : Int) ∧ RwRow wr W0.heap.size v o ∧ o.length = k ∧ (∀ j (h : j < o.length), o[j].2.1 = (lineS f j).take n ∧ o[j].2.2.2 = getS f j n) ∧ Below W0.heap.size W0 wr) (fun _ i _ => n + 1 - (intOf i).toNat)
  case atStart => exact ⟨0, [], Nat.zero_le _, rfl, RwRow.nil _ _, rfl, fun j h => absurd h (Nat.not_lt_zero _), Below.refl _ _⟩
  case round =>
    obtain ⟨k, o, hk, rfl, hrow, hol, hval, hbel⟩ := hrel
    clear r0 r1 r2 r3
    obtain ⟨r0, r1, r2, r3⟩ := (HB0.out.below hbel HB0.out.lt).c4
    have HR := Lib.hid hrow; have HOL := Lib.hid hol; have HVAL := Lib.hid hval; have HBL := Lib.hid hbel; have HSZ := Lib.hid hbel.size
    have HXr := Lib.hid (HX.out.below hbel)
    clear hrow hol hval hbel
    by_cases hlt : (k : Int) ≤ (n : Int)
    · have H1 := Lib.hid (HLI.out k _ HXr.out)
      go_wp2_with fail
      refine (H1.out).mono ?_
      rintro e w1 ⟨⟨v, rfl, hm⟩, hb1⟩
      obtain ⟨A1, c1, rfl, hs1, hfar⟩ := hm
      have hl1 := HLEN.out k (by omega)
      have hg1 := HGET.out k (by omega)
      obtain ⟨b1, o1, rfl, hb1l, hc1⟩ := hs1.reads.2 (by omega)
      have hcn := hc1 n (by omega)
      rw [hg1] at hcn
      have hs2 := hs1.first (n := n) (by omega)
      have hl2 : ((lineS f k).take n).length = n := by rw [List.length_take]; omega
      have HS2 := Lib.hid hs2; have HL2 := Lib.hid hl2
      have HFAR := Lib.hid (hfar _ rfl)
      have HB1 := Lib.hid hb1
      have HRW := Lib.hid (HR.out.call hb1)
      have HXP := Lib.hid (fun x : RwE => rws_snoc (P := fun j x => x.2.1 = (lineS f j).take n ∧ x.2.2.2 = getS f j n) (x := x) HVAL.out HOL.out)
      have hcl : n ≤ c1 := by have := hs1.cap; omega
      clear r0 r1 r2 r3
      obtain ⟨r0, r1, r2, r3⟩ := ((HB0.out.below HBL.out HB0.out.lt).below hb1 (Nat.lt_of_lt_of_le HB0.out.lt HSZ.out)).c4
      have hkn : k ≤ n := by omega
      clear hc1 hs1 hg1 hfar hb1 hs2 hl2 hlt
      rw [hl1]
      clear hl1
      have HSZ1 := Lib.hid (Nat.le_trans HSZ.out HB1.out.size)
      have HF := Lib.hid (show ∀ g, u3.ownBlock = some g → ∀ a : Addr, (some (⟨b1, o1, none⟩ : Addr)) = some a → a.block ≠ g from fun g hg a ha => by
        cases ha
        have h1 := HFAR.out
        have h2 := HR.out.own_lt g hg
        show b1 ≠ g
        have h3 : wr.heap.size ≤ b1 := h1
        omega)
      have HBX := Lib.hid (show (.cells #[.slice (some ⟨b1, o1, none⟩) n c1, .float .f64 (getS f k n)] 69 : Obj) = .cells (rwF (some ⟨b1, o1, none⟩, (lineS f k).take n, c1, getS f k n)).toArray 69 from by unfold rwF; rw [HL2.out])
      have ht1 : (n : Int) < (n : Int) + 1 := by omega
      have t0 : (((n + 1 : Nat) : Int) != (n : Int) + 1) = false := by rw [bne_eq_false_iff_eq]; omega
      go_wp2_with fail
      go_region_law
        (first | ((refine step_append_rw _ (by rfl) _ _ 44 Try.underlying44 (by rfl) W0.heap.size _ o k HOL.out (by rfl) (HRW.out.call (((Below.refl _ _).alloc (Nat.le_refl _) _).drew)) w1.heap.size (by rfl) (some ⟨b1, o1, none⟩, (lineS f k).take n, c1, getS f k n) (by rw [← HBX.out]; exact heap_alloc_new w1 _) (HS2.out.below ((Below.refl _ _).alloc (Nat.le_refl _) _).drew) (by rw [HL2.out]; omega) HF.out (show W0.heap.size ≤ (w1.alloc _).heap.size by rw [World.size_alloc]; have := HSZ1.out; omega) (by omega) ?_; intro g7 cap7 w7 hrow7 hb3)))
      all_goals
        go_wp2
        go_roundw
        case rel => exact ⟨k + 1, o ++ [(some ⟨b1, o1, none⟩, (lineS f k).take n, c1, getS f k n)], by omega, by go_num, hrow7, by rw [List.length_append, HOL.out]; rfl, HXP.out _ ⟨rfl, rfl⟩, (((Below.chain HBL.out HB1.out).alloc (by have := HSZ1.out; omega) _).drew).trans hb3⟩
        case measure => simp [intOf]; omega
    · obtain rfl : k = n + 1 := by omega
      obtain ⟨B, c3, rfl, hL⟩ := HR.out.list
      have HL2 := Lib.hid hL
      rw [HOL.out]
      clear hL
      go_wp2
      go_ret
      exact ⟨⟨B, o, c3, by rw [HOL.out]; rfl, HL2.out, HOL.out, HVAL.out⟩, HBE.out.trans (HBL.out.mono (by have := HS0.out; omega))⟩
end Go.Proofs.Ytdpmpfbbfknlmaa

/- Contracts of the document's Gram lists: Rows, Factor. -/
set_option linter.unusedVariables false
namespace Lev
theorem gram_R {t : Nat → Rat} {n : Nat} (h : ∀ i, i < n → R 1074 1025 (t i)) : ∀ i, i ≤ n → ∀ x ∈ gramR t n i, R 2148 2050 x
  | 0, _, x, hx => absurd hx List.not_mem_nil
  | i + 1, hi, x, hx => by
    rcases List.mem_append.1 hx with hx | hx
    · exact gram_R h i (by omega) x hx
    · rw [List.mem_map] at hx
      obtain ⟨s, hs, rfl⟩ := hx
      rw [List.mem_range] at hs
      exact R_mul (a := 1074) (b := 1025) (c := 1074) (d := 1025) (h i (by omega)) (h (i + s) (by omega))
/-- The entry j of the products of a row. -/
def gv (t : Nat → Rat) (n j : Nat) : Rat := ((gramR t (n + 1) (n + 1))[j]?).getD 0
theorem gv_R {t : Nat → Rat} {n j : Nat} (h : ∀ i, i < n + 1 → R 1074 1025 (t i)) : R 2148 2050 (gv t n j) := by
  unfold gv
  rcases hx : (gramR t (n + 1) (n + 1))[j]? with _ | x
  · exact R_zero _ _
  · exact gram_R h _ (Nat.le_refl _) x (List.mem_of_getElem? hx)
theorem gram_size (t : Nat → Rat) {n : Nat} (h : 1 ≤ n ∧ n ≤ 6) : (gramR t (n + 1) (n + 1)).length = (sizeI n).toNat := by
  have h : n = 1 ∨ n = 2 ∨ n = 3 ∨ n = 4 ∨ n = 5 ∨ n = 6 := by omega
  rcases h with e | e | e | e | e | e <;> rw [e] <;> simp [gramR] <;> decide
end Lev
namespace Go.Proofs.Ytdpmpfbbfknlmaa
open Go.RowKit Go.Shelf Lev

theorem lv_map {l : List DyE} {m : List Rat} (h : l.map (fun x => x.1.v) = m) (j : Nat) : lv l j = (m[j]?).getD 0 := by
  unfold lv
  rw [← h, List.getElem?_map]
theorem lv_zeros (n j : Nat) : lv (List.replicate n (Dy.zero, (none : Option Addr), 0)) j = 0 := by
  unfold lv
  rw [List.getElem?_replicate]
  split
  · show Dy.zero.v = 0
    exact Dy.zero_v
  · rfl

set_option maxRecDepth 100000 in
set_option maxHeartbeats 2000000 in
theorem rows08_any (n : Nat) (hn : 1 ≤ n ∧ n ≤ 6) (l : List RwE) (A : Option Addr) (ca : Nat) (w : World) (hl : RwL w A l ca) (hlen : ∀ x ∈ l, x.2.1.length = n) (h7 : l.length ≤ 1000)
    (hfx : ∀ x ∈ l, (∀ i, i < n → fin (ge x.2.1 i)) ∧ x.2.2.2 < 18446744073709551616 ∧ fin x.2.2.2) (t : Nat → Nat → Rat) (ht : ∀ j (h : j < l.length), (∀ i, i < n → t j i = fv (ge l[j].2.1 i)) ∧ t j n = fv l[j].2.2.2) :
    Calls Try.prog 14 #[.int .i64 (n : Int), .slice A l.length ca] w fun e w' => (∃ B o c, e = .returned (.tuple #[.slice B o.length c, .bool true]) ∧ DyL w' B o c ∧ o.length = (sizeI (n : Int)).toNat ∧ ∀ j, j < o.length → lv o j = sumR (fun k => gv (t k) n j) l.length) ∧ Below w.heap.size w w' := by
  have HN := Lib.hid hn
  have HGS := Lib.hid (fun k => gram_size (t k) hn)
  have hsz : 3 ≤ sizeI (n : Int) ∧ sizeI (n : Int) ≤ 28 := by
    have h : n = 1 ∨ n = 2 ∨ n = 3 ∨ n = 4 ∨ n = 5 ∨ n = 6 := by omega
    rcases h with e | e | e | e | e | e <;> rw [e] <;> decide
  have HSI := Lib.hid (fun W => rsize_any (n : Int) W)
  have HZE := Lib.hid (fun W => zero08_any (n : Int) (by omega) W)
  have htR : ∀ k, k < l.length → ∀ i, i < n + 1 → R 1074 1025 (t k i) := fun k hk i hi => by
    obtain ⟨h1, h2⟩ := ht k hk
    obtain ⟨h3, _, h4⟩ := hfx _ (List.getElem_mem hk)
    by_cases h : i < n
    · rw [h1 i h]; exact R_fv (h3 i h)
    · obtain rfl : i = n := by omega
      rw [h2]; exact R_fv h4
  have HROW := Lib.hid (fun k (hk : k < l.length) W (h : SlArg W l[k].1 l[k].2.1 l[k].2.2.1) => row08_any l[k].2.1 l[k].2.2.2 l[k].1 l[k].2.2.1 W h (by rw [hlen _ (List.getElem_mem hk)]; exact hn) (by rw [hlen _ (List.getElem_mem hk)]; exact (hfx _ (List.getElem_mem hk)).1) (hfx _ (List.getElem_mem hk)).2.1 (hfx _ (List.getElem_mem hk)).2.2 (t k) (by rw [hlen _ (List.getElem_mem hk)]; exact (ht k hk).1) (by rw [hlen _ (List.getElem_mem hk)]; exact (ht k hk).2))
  have HSR := Lib.hid (fun k (hk : k ≤ l.length) j => R_sum (t := fun k => gv (t k) n j) (a := 2148) (b := 2050) k (fun i hi => gv_R (htR i (by omega))))
  have HLEN := Lib.hid hlen; have HL := Lib.hid hl
  obtain ⟨sz, hs⟩ : ∃ sz : Nat, sizeI (n : Int) = sz := ⟨(sizeI (n : Int)).toNat, by omega⟩
  rw [hs] at HGS HSI HZE hsz
  rw [hs, Int.toNat_natCast]
  rw [Int.toNat_natCast] at HZE HGS
  have t0 : ((sz : Int) == 0) = false := by rw [beq_eq_false_iff_ne]; omega
  clear hl hlen hfx ht htR hs hn
  go_enter Try.func14, Try.ntmps14
  go_wp2_with fail
  refine (HSI.out _).mono ?_
  rintro e w1 ⟨rfl, rfl⟩
  go_wp2_with fail
  refine (HZE.out _).mono ?_
  rintro e w1 ⟨⟨B0, c0, rfl, hd0⟩, hb0⟩
  have HD0 := Lib.hid hd0; have HB0 := Lib.hid hb0
  clear hd0 hb0
  go_wp2_with fail
  go_loopw [6, 7] (fun v i wr => ∃ (k : Nat) (o : List DyE) (B : Option Addr) (c : Nat), k ≤ l.length ∧ i = .int .i64 (k : Int) ∧ v = .slice B o.length c ∧ DyL wr B o c ∧ o.length = sz ∧ (∀ j, j < o.length → lv o j = sumR (fun k => gv (t k) n j) k) ∧ Below w.heap.size w wr) (fun _ i _ => l.length - (intOf i).toNat)
  case atStart => exact ⟨0, _, B0, c0, Nat.zero_le _, rfl, by rw [List.length_replicate], HD0.out, List.length_replicate, fun j _ => lv_zeros _ _, HB0.out⟩
  case round =>
    obtain ⟨k, o, B, c, hk, rfl, rfl, hd, hol, hval, hbel⟩ := hrel
    by_cases hlt : (k : Int) < (l.length : Int)
    · have hkl : k < l.length := by omega
      have hLr := HL.out.below hbel
      obtain ⟨bL, oL, rfl, _, _⟩ := hLr.reads (by omega)
      obtain ⟨⟨a0, a1⟩, hs1⟩ := hLr.at hkl
      have HLr := Lib.hid hLr; have HD := Lib.hid hd; have HOL := Lib.hid hol; have HVAL := Lib.hid hval; have HBL := Lib.hid hbel
      have H1 := Lib.hid (HROW.out k hkl wr hs1)
      have HLK := Lib.hid (HLEN.out _ (List.getElem_mem hkl))
      have HAT := Lib.hid (fun W (h : Below wr.heap.size wr W) => ((HLr.out.below h).at hkl).1)
      clear hd hol hval hbel hLr hs1
      generalize l[k] = x at *
      obtain ⟨A1, xs1, c1, y1⟩ := x
      dsimp only at a0 a1 H1 HLK HAT
      rw [HLK.out] at a0 H1 HAT
      have HGV := Lib.hid (HGS.out k)
      have HRS := Lib.hid (fun j => HSR.out (k + 1) hkl j)
      clear HLK
      go_wp2_with fail
      refine H1.out.mono ?_
      rintro e w1 ⟨⟨C2, o2, c2, rfl, hd2, hm2⟩, hb2⟩
      obtain ⟨b0, b1⟩ := HAT.out w1 hb2
      have ho2 : o2.length = sz := by rw [← List.length_map (f := fun x : DyE => x.1.v), hm2, HGV.out]
      have hv2 : ∀ j, lv o2 j = gv (t k) n j := lv_map hm2
      have HO2 := Lib.hid ho2
      have HAD := Lib.hid (add08_any o o2 B C2 c c2 w1 (HD.out.below hb2) hd2 (by rw [HOL.out, ho2]) (by rw [HOL.out]; omega) (fun j hj => by
        have h1 := HRS.out j
        rw [show sumR (fun k => gv (t k) n j) (k + 1) = sumR (fun k => gv (t k) n j) k + gv (t k) n j from rfl, ← HVAL.out j hj, ← hv2 j] at h1
        exact R_Q h1 (by omega) (by omega)))
      have HV2 := Lib.hid hv2
      have hbW : Below w.heap.size w w1 := Below.chain HBL.out hb2
      have HBW := Lib.hid hbW
      clear hm2 hd2 ho2 hv2 hbW a0 a1 H1
      go_wp2_with fail
      refine HAD.out.mono ?_
      rintro e w3 ⟨⟨C3, o3, c3, rfl, hd3, hl3, hv3⟩, hb3⟩
      have HR3 := Lib.hid (show (∀ j, j < o3.length → lv o3 j = sumR (fun k => gv (t k) n j) (k + 1)) from fun j hj => by
        rw [lv_get hj, hv3 j hj, HVAL.out j (by omega), HV2.out]; rfl)
      have HD3 := Lib.hid hd3; have HL3 := Lib.hid hl3
      have HB3 := Lib.hid (Below.chain HBW.out hb3)
      clear hd3 hl3 hv3 hb3 b0 b1
      go_wp2
      go_roundw
      case rel => exact ⟨k + 1, o3, C3, c3, by omega, by go_num, rfl, HD3.out, by rw [HL3.out, HOL.out], HR3.out, HB3.out⟩
      case measure => simp [intOf]; omega
    · obtain rfl : k = l.length := by omega
      have HD := Lib.hid hd; have HOL := Lib.hid hol; have HVAL := Lib.hid hval; have HBL := Lib.hid hbel
      clear hd hol hval hbel
      go_wp2
      go_ret2
      exact ⟨⟨B, o, c, rfl, HD.out, HOL.out, HVAL.out⟩, HBL.out⟩
end Go.Proofs.Ytdpmpfbbfknlmaa

/- Contract of the document's Gram list of a factor. -/
set_option linter.unusedVariables false
namespace Lev
theorem getS_fin {f : Fct} (h : f.ok = true) (i j : Int) : fin (getS f i j) := by
  unfold getS
  split
  · rcases hx : f.xs[(atI f.C i j).toNat]? with _ | x
    · exact by decide
    · exact small_fin (check_small' h (List.mem_of_getElem? hx))
  · exact by decide
/-- The entry j of the products of a factor's lines. -/
def gramS (f : Fct) (n j : Nat) : Rat := sumR (fun k => gv (fun i => fv (getS f k i)) n j) (n + 1)
end Lev
namespace Go.Proofs.Ytdpmpfbbfknlmaa
open Go.RowKit Go.Shelf Lev

theorem rows08_of (f : Fct) (hX : ∀ x ∈ f.xs, x < 18446744073709551616) (hok : f.ok = true) (n : Nat) (hn : f.C = (n : Int)) (o : List RwE) (B : Option Addr) (c : Nat) (W : World) (hr : RwL W B o c) (hol : o.length = n + 1) (hv : ∀ j (h : j < o.length), o[j].2.1 = (lineS f j).take n ∧ o[j].2.2.2 = getS f j n) :
    Calls Try.prog 14 #[.int .i64 (n : Int), .slice B (n + 1) c] W fun e w' => (∃ B o c, e = .returned (.tuple #[.slice B o.length c, .bool true]) ∧ DyL w' B o c ∧ o.length = (sizeI (n : Int)).toNat ∧ ∀ j, j < o.length → lv o j = gramS f n j) ∧ Below W.heap.size W w' := by
  have hn6 : 1 ≤ n ∧ n ≤ 6 := by have := ok_len hok; omega
  have hh : ∀ k : Nat, k ≤ n → hasS f k = true := fun k hk => hasS_iff.2 ⟨hok, by omega, by omega⟩
  have hlen : ∀ k : Nat, k ≤ n → (lineS f k).length = n + 1 := fun k hk => by rw [lineS_length (hh k hk)]; omega
  have hget : ∀ k i : Nat, k ≤ n → i ≤ n → (lineS f k)[i]?.getD 0 = getS f k i := fun k i hk hi => lineS_get (hh k hk) (by omega)
  have hgt : ∀ k i : Nat, k ≤ n → i < n → ge ((lineS f k).take n) i = getS f k i := fun k i hk hi => by
    rw [← hget k i hk (by omega)]
    unfold ge
    rw [List.getElem?_take_of_lt hi]
  have hmem : ∀ x ∈ o, ∃ j, j ≤ n ∧ x.2.1 = (lineS f (j : Int)).take n ∧ x.2.2.2 = getS f j n := fun x hx => by
    obtain ⟨j, hj, rfl⟩ := List.mem_iff_getElem.1 hx
    exact ⟨j, by omega, hv j hj⟩
  have := rows08_any n hn6 o B c W hr (fun x hx => by
    obtain ⟨j, hj, e, _⟩ := hmem x hx
    rw [e, List.length_take, hlen j hj]; omega) (by omega) (fun x hx => by
    obtain ⟨j, hj, e, e2⟩ := hmem x hx
    rw [e, e2]
    exact ⟨fun i hi => by rw [hgt j i hj hi]; exact getS_fin hok _ _, getS_lt hX _ _, getS_fin hok _ _⟩) (fun k i => fv (getS f k i)) (fun j h => by
    rw [(hv j h).1, (hv j h).2]
    exact ⟨fun i hi => by rw [hgt j i (by omega) hi], rfl⟩)
  rw [hol] at this
  exact this

set_option maxRecDepth 100000 in
set_option maxHeartbeats 2000000 in
theorem factor08_any (f : Fct) (A : Option Addr) (ca : Nat) (w : World) (hx : SlArg w A f.xs ca) (hok : f.ok = true) (n : Nat) (hn : f.C = (n : Int)) :
    Calls Try.prog 6 #[facV f.C A f.xs.length ca f.R f.T] w fun e w' => (∃ B o c, e = .returned (.tuple #[.slice B (sizeI (n : Int)).toNat c, .bool true]) ∧ DyL w' B o c ∧ o.length = (sizeI (n : Int)).toNat ∧ ∀ j, j < o.length → lv o j = gramS f n j) ∧ Below w.heap.size w w' := by
  have HROWS := Lib.hid (rows08_of f hx.reads.1 hok n hn)
  have HLI := Lib.hid (fun W (h : SlArg W A f.xs ca) => lines08_any f A ca W h hok n hn)
  have HCK := Lib.hid (fun W hW => rcheck_any f.C A f.xs ca f.R f.T W hW)
  have hck : checkS f.C f.xs f.R f.T = true := hok
  obtain ⟨W0, hW0⟩ : ∃ W0, W0 = w.alloc (.cells #[.int .i64 f.C, .slice A f.xs.length ca, .int .i64 f.R, .int .i64 f.T] 24) := ⟨_, rfl⟩
  have hb0 : Bk W0 w.heap.size 24 #[.int .i64 f.C, .slice A f.xs.length ca, .int .i64 f.R, .int .i64 f.T] := by rw [hW0]; exact Bk.new _ _ _
  have hbe : Below w.heap.size w W0 := by rw [hW0]; exact (Below.refl _ _).alloc (Nat.le_refl _) _
  have hs0 : w.heap.size + 1 = W0.heap.size := by rw [hW0, World.size_alloc]
  have hx0 := hx.below hbe
  have HX := Lib.hid hx0; have HB0 := Lib.hid hb0; have HBE := Lib.hid hbe; have HS0 := Lib.hid hs0; have HW := Lib.hid hW0
  unfold facV at HLI HCK ⊢
  rw [hck] at HCK
  rw [hn] at HLI HCK HB0 HW ⊢
  obtain ⟨r0, r1, r2, r3⟩ := HB0.out.c4
  clear hx hok hn hck hb0 hbe hs0 hx0 hW0
  rw [HW.out] at r0 r1 r2 r3
  go_enter Try.func6, Try.ntmps6
  go_wp2_with fail
  rw [← HW.out] at r0 r1 r2 r3 ⊢
  refine (HCK.out _ HX.out).mono ?_
  rintro e w1 ⟨rfl, hb1⟩
  have HB1 := Lib.hid hb1
  have HX1 := Lib.hid (HX.out.below hb1)
  have HKE := Lib.hid (fun Y (h : Below w1.heap.size w1 Y) => show (Y.cell? ⟨w.heap.size, 0, none⟩ = some (.int .i64 (n : Int)) ∧ Y.cell? ⟨w.heap.size, 1, none⟩ = some (.slice A f.xs.length ca) ∧ Y.cell? ⟨w.heap.size, 2, none⟩ = some (.int .i64 f.R) ∧ Y.cell? ⟨w.heap.size, 3, none⟩ = some (.int .i64 f.T)) ∧ Below w1.heap.size w1 Y from
    ⟨(((HB0.out.below HB1.out HB0.out.lt).below h (Nat.lt_of_lt_of_le HB0.out.lt HB1.out.size)).c4), h⟩)
  clear r0 r1 r2 r3 hb1
  go_wp2_with fail
  go_region_held3 (fun Y => (Y.cell? ⟨w.heap.size, 0, none⟩ = some (.int .i64 (n : Int)) ∧ Y.cell? ⟨w.heap.size, 1, none⟩ = some (.slice A f.xs.length ca) ∧ Y.cell? ⟨w.heap.size, 2, none⟩ = some (.int .i64 f.R) ∧ Y.cell? ⟨w.heap.size, 3, none⟩ = some (.int .i64 f.T)) ∧ Below w1.heap.size w1 Y)
    ((refine HKE.out _ ?_; (repeat (first | assumption | exact Below.refl _ _ | refine Below.allocs ?_ _ | refine Below.drews ?_ | refine Below.chain ?_ (by assumption)))))
    (first
      | (go_at_call 15; (refine (HLI.out _ (HX1.out.below (by repeat (first | assumption | exact Below.refl _ _ | refine Below.allocs ?_ _ | refine Below.drews ?_ | refine Below.chain ?_ (by assumption))))).mono ?_); rintro e w5 ⟨⟨B5, o5, c5, rfl, hr5, ho5, hv5⟩, hb5⟩)
      | (go_at_call 14; (refine (HROWS.out o5 B5 c5 _ (hr5.below (by repeat (first | assumption | exact Below.refl _ _ | refine Below.allocs ?_ _ | refine Below.drews ?_ | refine Below.chain ?_ (by assumption)))) ho5 hv5).mono ?_); rintro e w6 ⟨⟨B6, o6, c6, rfl, hd6, ho6, hv6⟩, hb6⟩))
  go_wp2
  go_ret2
  have HB1' := HB1.out
  have hb9 : Below w1.heap.size w1 w6 := by repeat (first | assumption | exact Below.refl _ _ | refine Below.drews ?_ | refine Below.chain ?_ (by assumption))
  exact ⟨⟨B6, o6, c6, rfl, hd6, ho6, hv6⟩, HBE.out.trans ((Below.chain HB1.out hb9).mono (by have := HS0.out; omega))⟩
end Go.Proofs.Ytdpmpfbbfknlmaa

/- Contract of the document's Within of layer 4. -/
set_option linter.unusedVariables false
namespace Lev
/-- What Within tells. -/
def wiQ (x q : Rat) (k : Nat) : Bool := decide (cmpQ (ab (x - q)) (ab q * (k : Rat) * pw (-53) + pw (-1075)) ≤ 0)
end Lev
namespace Go.Proofs.Ytdpmpfbbfknlmaa
open Go.RowKit Go.Shelf Lev

attribute [local go_sem] order_lt order_gt order_eq order_ne order_le order_ge

end Go.Proofs.Ytdpmpfbbfknlmaa
