/- A row of a factor: tri.Line. -/
import Derived.Test.YtkhnoffhbfcgfaaCg
namespace Go.Proofs.Ytkhnoffhbfcgfaa
open Go.RowKit Go.Shelf Lev

attribute [local go_sem] Oper.semAt_some

theorem namedIn {F : Fence} {n : Nat} {P : Program} {f : FuncId} {args : Array Value} {w : World} {Q : Ending → World → Prop} (h : ∀ W, W = w → CallsIn F n P f args W Q) : CallsIn F n P f args w Q := h w rfl

/-- A row of a number of zeros, with room. -/
theorem own_made (w : World) (e : TypeId) (i c : Nat) (h : i ≤ c) (hc : c ≤ 9223372036854775807) {base : Nat} (hb : base ≤ w.heap.size) :
    (w.alloc (.cells (madeCells #[.float .f64 0] c) e)).ownsRow base e 1 (.slice (some ⟨w.heap.size, 0, none⟩) i c) i (List.replicate i (.float .f64 0)) := by
  refine ⟨by simp, .inr ⟨w.heap.size, c, madeCells #[.float .f64 0] c, rfl, hb, heap_alloc_new w _, h, by unfold maxLen; exact hc, by rw [size_madeCells, Nat.mul_one], ?_⟩⟩
  refine List.ext_getElem (by simp [size_madeCells]; omega) fun j h1 h2 => ?_
  simp [madeCells, Nat.mod_one]

theorem boxed_kept {X Y : World} {row : Option Nat} {g : Nat} {t : TypeId} {v : Value} (h : Boxed X g t v) (hg : X.grownBy Y row) (hr : ∀ r, row = some r → ∃ o : Obj, X.heap[r]? = some o ∧ o.isCells = false) : Boxed Y g t v :=
  h.kept hg fun e' => by
    obtain ⟨o, ho, hc⟩ := hr g e'.symm
    rw [show X.heap[g]? = _ from h] at ho; cases ho; cases hc

theorem own_cells {W : World} {base : Nat} {e : TypeId} {size k : Nat} {v : Value} {xs : List Value} (h : W.ownsRow base e size v k xs) : ∀ (j : Nat) (o : Obj), v.ownBlock = some j → W.heap[j]? = some o → o.isCells = true := by
  intro j o ej hj
  rcases h.2 with ⟨rfl, _⟩ | ⟨g, cap, cur, rfl, _, hgb, _⟩
  · simp [Value.ownBlock] at ej
  · obtain rfl : g = j := by simpa [Value.ownBlock] using ej
    rw [hgb] at hj; cases hj; rfl

/-- An append onto a row in a variable's box, no cell laid for it. -/
theorem appended0 {W w1 : World} {n₀ B : Nat} {t e : TypeId} {size : Nat} {v v' : Value} {k m : Nat} {xs ys : List Value}
    (hv : Boxed W B t v) (hte : t ≠ e) (hrow : W.ownsRow n₀ e size v k xs) (hn₀ : n₀ ≤ W.heap.size) (hB : n₀ ≤ B)
    (hown' : w1.ownsRow n₀ e size v' m ys) (hgrow : W.grownBy w1 v.ownBlock) :
    Boxed w1 B t v ∧ Boxed (w1.setCell ⟨B, 0, none⟩ v') B t v' ∧ (w1.setCell ⟨B, 0, none⟩ v').ownsRow n₀ e size v' m ys ∧ KeepsOthers W (w1.setCell ⟨B, 0, none⟩ v') ∧ Below n₀ W (w1.setCell ⟨B, 0, none⟩ v') := by
  have hv1 : Boxed w1 B t v := hv.kept hgrow (hv.not_row hte hrow)
  refine ⟨hv1, hv1.set v', hown'.kept (grownBy_setCell' w1 B v') (.inr (hv1.not_row hte hown').symm), ?_, ?_⟩
  · exact (KeepsOthers.of_grownBy hgrow (own_cells hrow)).trans (KeepsOthers.setCell _ _ _)
  · exact ((Below.refl n₀ W).grown hgrow hn₀ fun j ej => (hrow.lt j ej).1).setCell (p := ⟨B, 0, none⟩) hB v'

/-- The number of the row that came last. -/
def lastx {N : Nat} (pre : List (Fin N)) : Nat := match pre.getLast? with | some x => x.1 | none => 0
theorem lastx_snoc {N : Nat} (pre : List (Fin N)) (x : Fin N) : lastx (pre ++ [x]) = x.1 := by unfold lastx; rw [List.getLast?_concat]
theorem lastx_take {N k : Nat} (hk : k < N) : lastx ((List.finRange N).take (k + 1)) = k := by rw [take_fin hk, lastx_snoc]

def rowV (N : Nat) (xs : List Nat) (k : Nat) : List Value := ((xs.drop (st N k)).take (N - k)).map (Value.float .f64)
theorem rowV_length {N k : Nat} {xs : List Nat} (hk : k < N) (hl : xs.length = st N N) : (rowV N xs k).length = N - k := by
  have := st_end hk
  rw [st_succ] at this
  unfold rowV
  rw [List.length_map, List.length_take, List.length_drop]; omega
theorem rowV_get {N k j : Nat} {xs : List Nat} {u : Value} (h : (rowV N xs k)[j]? = some u) : st N k + j < xs.length ∧ j < N - k ∧ u = .float .f64 (xs[st N k + j]?.getD 0) := by
  unfold rowV at h
  rw [List.getElem?_map] at h
  cases h2 : ((xs.drop (st N k)).take (N - k))[j]? with
  | none => rw [h2] at h; cases h
  | some y =>
    rw [h2] at h
    have hj := (List.getElem?_eq_some_iff.1 h2).1
    rw [List.length_take, List.length_drop] at hj
    rw [List.getElem?_take_of_lt (by omega), List.getElem?_drop] at h2
    refine ⟨by omega, by omega, ?_⟩
    rw [h2]; cases h; rfl

set_option maxRecDepth 100000 in
set_option maxHeartbeats 4000000 in
theorem line_any (f : Fct) (A : Option Addr) (c : Nat) (i : Int) (w : World) (hx : SlArg w A f.xs c) :
    Calls Try.prog 38 #[facV f.C A f.xs.length c f.R f.T, .int .i64 i] w fun e w' => (∃ v, e = .returned v ∧ MadeF w.heap.size w' v (lineS f i)) ∧ Below w.heap.size w w' := by
  have HX := Lib.hid hx
  have HH := Lib.hid (fun W hW => has_any f A c i W hW)
  unfold facV at HH ⊢
  cases hh : hasS f i
  · have hL : lineS f i = [] := by unfold lineS; rw [hh, if_neg (by decide)]
    rw [hL]
    rw [hh] at HH
    clear hL hh hx
    go_enter Try.func38, Try.ntmps38
    go_wp2_with fail
    refine named ?_
    intro W hW
    obtain ⟨b0, b1, hbW, hsz⟩ := boxes2 hW
    clear hW
    refine (HH.out W (HX.out.below hbW)).mono ?_
    rintro e w1 ⟨rfl, hb1⟩
    have hB := hbW.trans (hb1.mono (by omega))
    clear hb1 hbW b0 b1
    go_wp2
    go_ret
    exact ⟨⟨_, rfl, madeF_nil _ _⟩, hB⟩
  · obtain ⟨hok, h1, h2⟩ := hasS_iff.1 hh
    have hC6 := (ok_len hok).2.1
    have hC1 := (ok_len hok).1
    have hlen := (ok_len hok).2.2.1
    rw [hh] at HH
    obtain ⟨N, hN⟩ : ∃ N : Nat, (N : Int) = f.C + 1 := ⟨(f.C + 1).toNat, by omega⟩
    have hNe : (f.C + 1).toNat = N := by omega
    rw [hNe] at hlen
    obtain ⟨q, hq⟩ : ∃ q : Nat, i = (q : Int) := ⟨i.toNat, by omega⟩
    subst hq
    have hpos : 0 < f.xs.length := by
      have := st_all N
      have h3 : 2 ≤ N := by omega
      have := Nat.mul_le_mul h3 h3
      omega
    obtain ⟨b, off, hA, hbb, hcell⟩ := hx.reads.2 hpos
    subst hA
    obtain ⟨i0, hi, hz0, hz1, hz2⟩ := info_parts info_f64'
    have hmk := fun w => run_make (P := Try.prog) w 22 26 i0 (.float .f64 0) Try.underlying22 hi hz0 .i64 .i64 (q : Int) (f.C + 1) (by omega) (by omega) (by rw [hz2]; omega) (by omega)
    have hcl : (Value.float .f64 0).cells = #[.float .f64 0] := rfl
    have hCn : (f.C + 1).toNat * i0.size = N := by rw [hz1, hNe, Nat.mul_one]
    rw [hcl, hCn, Int.toNat_natCast, hNe] at hmk
    have HMK := Lib.hid hmk
    have HOK := Lib.hid hok; have HHS := Lib.hid hh; have HLEN := Lib.hid hlen; have HNN := Lib.hid hN; have HC := Lib.hid hcell
    clear hh hok hx hlen hNe hcl hCn hmk hcell hN
    refine (callsIn_wide (n := 5)).1 ?_
    refine callsIn_of_wp_marks Try.func38 rfl trivial ?_ rfl
    simp only [Try.ntmps38, List.size_toArray, List.length_cons, List.length_nil, Nat.reduceAdd, Nat.reduceSub, Array.replicate_succ, Array.replicate_zero, List.push_toArray, List.append_toArray, List.nil_append, List.cons_append]
    gi_wp2_with fail
    refine ⟨trivial, ?_⟩
    refine namedIn ?_
    intro W hW
    obtain ⟨b0, b1, hbW, hsz⟩ := boxes2 hW
    clear hW
    refine (callsIn_wide.2 (HH.out W (HX.out.below hbW))).mono ?_
    rintro e w1 ⟨rfl, hb1⟩
    have hB1 := hbW.trans (hb1.mono (by omega))
    have c0 := b0.below hb1 (by omega)
    have c1 := b1.below hb1 (by omega)
    obtain ⟨r0, r1, r2, r3⟩ := c0.c4
    obtain ⟨s0, s1⟩ := c1.c1
    have hsz1 := hb1.size
    have hl0 : w.heap.size < w1.heap.size := by omega
    have hl1 : w.heap.size + 1 < w1.heap.size := by omega
    have hl2 : w.heap.size < w1.heap.size + 1 := by omega
    have hl3 : w.heap.size < w1.heap.size + 1 + 1 := by omega
    have hmk := HMK.out
    have HB1 := Lib.hid hB1; have HC0 := Lib.hid c0; have HC1 := Lib.hid c1
    clear hb1 hbW b0 b1 hB1 c0 c1
    gi_wp2_with (refine ⟨trivial, ?_⟩; gi_at_call 56; refine (rows_in Fence.wide _ trivial rfl _ _ _ _ _ _ _).mono ?_; rintro e w' ⟨rfl, rfl⟩)
    obtain ⟨G, hG⟩ : ∃ G, G = w1.heap.size := ⟨_, rfl⟩
    obtain ⟨V, hV⟩ : ∃ V, V = (((w1.alloc (.cells (madeCells #[.float .f64 0] N) 26)).alloc (.cells #[.slice (some ⟨w1.heap.size, 0, none⟩) q N] 22)).alloc (.cells #[.int .i64 0] 3)).alloc (.cells #[.int .i64 f.C, .slice (some ⟨b, off, none⟩) f.xs.length c, .int .i64 f.R, .int .i64 f.T] 24) := ⟨_, rfl⟩
    have a1 : Boxed V (G + 1) 22 (.slice (some ⟨G, 0, none⟩) q N) := by
      have := ((Boxed.new (w1.alloc (.cells (madeCells #[.float .f64 0] N) 26)) 22 (.slice (some ⟨w1.heap.size, 0, none⟩) q N)).alloc (.cells #[.int .i64 0] 3)).alloc (.cells #[.int .i64 f.C, .slice (some ⟨b, off, none⟩) f.xs.length c, .int .i64 f.R, .int .i64 f.T] 24)
      rw [World.size_alloc, ← hV, ← hG] at this; exact this
    have a2 : Boxed V (G + 1 + 1) 3 (.int .i64 0) := by
      have := (Boxed.new ((w1.alloc (.cells (madeCells #[.float .f64 0] N) 26)).alloc (.cells #[.slice (some ⟨w1.heap.size, 0, none⟩) q N] 22)) 3 (.int .i64 0)).alloc (.cells #[.int .i64 f.C, .slice (some ⟨b, off, none⟩) f.xs.length c, .int .i64 f.R, .int .i64 f.T] 24)
      rw [World.size_alloc, World.size_alloc, ← hV, ← hG] at this; exact this
    have a3 : Bk V (G + 1 + 1 + 1) 24 #[.int .i64 f.C, .slice (some ⟨b, off, none⟩) f.xs.length c, .int .i64 f.R, .int .i64 f.T] := by
      have := Bk.new (((w1.alloc (.cells (madeCells #[.float .f64 0] N) 26)).alloc (.cells #[.slice (some ⟨w1.heap.size, 0, none⟩) q N] 22)).alloc (.cells #[.int .i64 0] 3)) 24 #[.int .i64 f.C, .slice (some ⟨b, off, none⟩) f.xs.length c, .int .i64 f.R, .int .i64 f.T]
      rw [World.size_alloc, World.size_alloc, World.size_alloc, ← hV, ← hG] at this; exact this
    have a4 : Boxed V (w.heap.size + 1) 3 (.int .i64 (q : Int)) := by rw [hV]; exact (((HC1.out.alloc _).alloc _).alloc _).alloc _
    have a0 : V.ownsRow w.heap.size 26 1 (.slice (some ⟨G, 0, none⟩) q N) q (List.replicate q (.float .f64 0)) := by
      have := (((own_made w1 26 q N (by have := HNN.out; omega) (by have := HNN.out; omega) (base := w.heap.size) (by omega)).alloc (.cells #[.slice (some ⟨w1.heap.size, 0, none⟩) q N] 22)).alloc (.cells #[.int .i64 0] 3)).alloc (.cells #[.int .i64 f.C, .slice (some ⟨b, off, none⟩) f.xs.length c, .int .i64 f.R, .int .i64 f.T] 24)
      rw [← hV, ← hG] at this; exact this
    have hBV : Below w.heap.size w V := by rw [hV]; exact (((HB1.out.alloc (by omega) _).alloc (by simp; omega) _).alloc (by simp; omega) _).alloc (by simp; omega) _
    have hVs : G + 1 + 1 + 1 < V.heap.size := a3.lt
    have hGs : w.heap.size + 2 ≤ G := by omega
    rw [← hV, ← hG]
    clear hV hG r0 r1 r2 r3 s0 s1 hmk hl0 hl1 hl2 hl3 hsz1
    have HA0 := Lib.hid a0
    clear a0
    have hcx := HX.out.cap
    have hc63 := HX.out.room
    refine wpIn_rangeFunc_ownG rfl (by decide) (gf := 73) (lb := #[.pointer (some ⟨G + 1 + 1 + 1, 0, none⟩)]) rfl trivial (enters_of Try.func73 (by kernel_rfl) rfl)
      (rows_stops Fence.wide 4 trivial rfl (by decide) (G + 1 + 1 + 1) w.heap.size b off c N f.xs.length (by have := HNN.out; omega) HLEN.out.symm hcx hc63 V hVs (by rw [a3.c4.1]; congr 2; have := HNN.out; omega) a3.c4.2.1) belowK_t (belowK_b (by omega)) (Below.refl _ _) (fun _ => rfl)
      (fun pre W => ((∃ v, Boxed W (G + 1) 22 v ∧ W.ownsRow w.heap.size 26 1 v q (List.replicate q (.float .f64 0)) ∧ v = .slice (some ⟨G, 0, none⟩) q N) ∧ (Boxed W (G + 1 + 1) 3 (.int .i64 (pre.length : Int)) ∧ Boxed W (w.heap.size + 1) 3 (.int .i64 (q : Int)) ∧ pre.length ≤ q)) ∧ Below w.heap.size w W)
      (fun c' pre W => ((∃ v, Boxed W (G + 1) 22 v ∧ W.ownsRow w.heap.size 26 1 v (q + (N - lastx pre)) (List.replicate q (.float .f64 0) ++ rowV N f.xs (lastx pre)) ∧ True) ∧ (c' = .exit 0 ∧ pre.length = q + 1)) ∧ Below w.heap.size w W)
      (OwnFrom.and (OwnFrom.and ((holdsRow_own _ _ _ _ _ (fun _ => q) (fun _ => List.replicate q (.float .f64 0)) (fun _ v => v = .slice (some ⟨G, 0, none⟩) q N)).from _) (Own.from (fun s A B row hs hg hr => ⟨boxed_kept hs.1 hg hr, boxed_kept hs.2.1 hg hr, hs.2.2⟩) _)) (ownFrom_below (Nat.le_refl _) (by omega)))
      (fun c' => OwnFrom.and (OwnFrom.and ((holdsRow_own _ _ _ _ _ (fun pre => q + (N - lastx pre)) (fun pre => List.replicate q (.float .f64 0) ++ rowV N f.xs (lastx pre)) (fun _ _ => True)).from _) (Own.from (fun s A B row hs hg hr => hs) _)) (ownFrom_below (Nat.le_refl _) (by omega)))
      ⟨⟨⟨_, a1, HA0.out, rfl⟩, a2, a4, Nat.zero_le _⟩, hBV⟩
      (fun x => { tmps := #[.agg #[.int .i64 f.C, .slice (some ⟨b, off, none⟩) f.xs.length c, .int .i64 f.R, .int .i64 f.T], .int .i64 (q : Int), .pointer (some ⟨w.heap.size, 0, none⟩), .pointer (some ⟨w.heap.size + 1, 0, none⟩), .slice none 0 0, .pointer (some ⟨G + 1, 0, none⟩), .pointer (some ⟨G + 1 + 1, 0, none⟩), .slice (some ⟨b, off + st N x.1, none⟩) (N - x.1) (c - st N x.1), .agg #[.int .i64 f.C, .slice (some ⟨b, off, none⟩) f.xs.length c, .int .i64 f.R, .int .i64 f.T], .int .i64 (q : Int), .bool true, .bool false, .int .i64 (q : Int), .pointer (some ⟨w.heap.size, 0, none⟩), .int .i64 f.C, .int .i64 (f.C + 1), .slice (some ⟨G, 0, none⟩) q N, .agg #[.int .i64 f.C, .slice (some ⟨b, off, none⟩) f.xs.length c, .int .i64 f.R, .int .i64 f.T], .func (.func 73) #[] #[.pointer (some ⟨G + 1 + 1 + 1, 0, none⟩)], .slice (some ⟨b, off + st N x.1, none⟩) (N - x.1) (c - st N x.1), undef, undef, undef, undef, undef, undef, undef, undef, undef], defers := [] }) ?assign ?body ?done ?stop
    case assign =>
      intro l x W K hK
      gi_wp2
      exact hK
    case body =>
      rintro l pre ⟨k, hk⟩ W ⟨⟨⟨v, hbx, hrow, rfl⟩, hbn, hbi, hpl⟩, hB⟩ _
      have n0 := hbn.cell; have n1 := hbn.frozen; have i1 := hbi.cell; have l0 := hbx.cell; have l1 := hbx.frozen
      obtain ⟨m, hm⟩ : ∃ m, m = pre.length := ⟨_, rfl⟩
      rw [← hm] at hbn n0 hpl
      have HPL := Lib.hid hm
      by_cases hmq : m = q
      · have hmi : ((m : Int) == (q : Int)) = true := by rw [beq_iff_eq]; omega
        have HMQ := Lib.hid hmq
        have hrl := rowV_length hk HLEN.out
        have hcr : ∀ j u, (rowV N f.xs k)[j]? = some u → W.cell? ((⟨b, off + st N k, none⟩ : Addr).add j) = some u := fun j u hu => by
          obtain ⟨g1, g2, rfl⟩ := rowV_get hu
          have e2 : (⟨b, off + st N k, none⟩ : Addr).add j = ⟨b, off + (st N k + j), none⟩ := by
            unfold Addr.add; split
            · subst_vars; rw [Nat.add_zero]
            · rw [Nat.add_assoc]
          rw [e2]
          exact (hB.cell (p := ⟨b, off + (st N k + j), none⟩) hbb).trans (HC.out _ g1)
        have h1c : ∀ u ∈ rowV N f.xs k, u.oneCell' = true := fun u hu => by
          unfold rowV at hu; rw [List.mem_map] at hu; obtain ⟨y, _, rfl⟩ := hu; rfl
        have HCR := Lib.hid hcr; have H1C := Lib.hid h1c; have HRL := Lib.hid hrl
        have hN7 : N ≤ 7 := by have := HNN.out; omega
        have HK := Lib.hid hk
        obtain ⟨d, hd⟩ : ∃ d, d = N - k := ⟨_, rfl⟩
        have hd1 : 1 ≤ d := by omega
        have hd7 : d ≤ 7 := by omega
        have HD := Lib.hid hd
        dsimp only
        rw [← hd]
        rw [← hd] at hrl
        clear hcr h1c hrl hm hmq hd
        have hap := fun v' (w1 : World) ys m' (hown' : w1.ownsRow w.heap.size 26 1 v' m' ys) hgrow => appended0 hbx (by decide) hrow hB.size (by omega) hown' hgrow
        have HAP := Lib.hid hap
        clear hap
        gi_wp2_with (gi_at_builtin; refine wpListIn_append_own _ rfl _ _ 22 rfl w.heap.size 26 i0 (.float .f64 0) 1 8 Try.underlying22 hi hz0 hz1 hz2 rfl (by decide) _ q _ rfl hrow ⟨b, off + st N k, none⟩ d _ (rowV N f.xs k) rfl (by rw [HRL.out, ← HD.out, Nat.mul_one]) HCR.out H1C.out (by unfold maxLen; omega) (by omega) hB.size ?_; intro v' w2 hown' hgrow _; obtain ⟨d', hd'⟩ : ∃ d', q + d = d' + 1 := ⟨q + d - 1, by omega⟩; have hform := hown'; rw [hd'] at hform; obtain ⟨g', cap', rfl⟩ := ownsRow_succ hform; rw [← hd'] at *; clear hform hd'; obtain ⟨p1, p2, p3, p4, p5⟩ := HAP.out _ _ _ _ hown' hgrow; have y0 := p1.cell; have y1 := p1.frozen)
        refine ⟨p4.from _, ⟨⟨_, p2, ?_, trivial⟩, rfl, ?_⟩, hB.trans p5⟩
        · rw [lastx_snoc, ← HD.out]; exact p3
        · rw [List.length_append, ← HPL.out, HMQ.out]; rfl
      · have hmi : ((m : Int) == (q : Int)) = false := by rw [beq_eq_false_iff_ne]; omega
        have HMQ := Lib.hid hmq
        have hm9 : (m : Int) ≤ 100 := by omega
        clear hm hmq
        gi_wp2
        refine ⟨(KeepsOthers.setCell _ _ _).from _, ((Below.refl _ _).setCell (p := ⟨G + 1 + 1, 0, none⟩) (by show w.heap.size ≤ G + 1 + 1; omega) _), ⟨⟨_, hbx.kept (grownBy_setCell' _ _ _) (by simp), hrow.kept (grownBy_setCell' _ _ _) (.inr (by simp [Value.ownBlock]; omega)), rfl⟩, ?_, hbi.kept (grownBy_setCell' _ _ _) (by simp; omega), ?_⟩, hB.setCell (p := ⟨G + 1 + 1, 0, none⟩) (by show w.heap.size ≤ G + 1 + 1; omega) _⟩
        · have := hbn.set (.int .i64 ((m : Int) + 1))
          rw [List.length_append, ← HPL.out]; exact this
        · rw [List.length_append, ← HPL.out]; have := HMQ.out; show m + 1 ≤ q; omega
    case done =>
      rintro D ys W hD rfl ⟨⟨_, _, _, hlen⟩, hB⟩ hK
      rw [List.length_finRange] at hlen
      have := HNN.out
      omega
    case stop =>
      rintro D c' pre W hD ⟨k, hkN, hpre⟩ ⟨⟨⟨v, hbx, hrow, _⟩, rfl, hpl⟩, hB⟩ hK
      have hq : k = q + 1 := by
        rw [hpre, List.length_take, List.length_finRange] at hpl; omega
      subst hq
      have hqN : q < N := by omega
      rw [hpre, lastx_take hqN] at hrow
      have hln : List.replicate q (Value.float .f64 0) ++ rowV N f.xs q = (lineS f (q : Int)).map (Value.float .f64) := by
        unfold lineS
        rw [if_pos HHS.out, List.map_append, List.map_replicate, Int.toNat_natCast, show (f.C + 1).toNat = N from by have := HNN.out; omega]; rfl
      have hll := lineS_length HHS.out
      rw [show (f.C + 1).toNat = N from by have := HNN.out; omega] at hll
      rw [hln, show q + (N - q) = N from by omega, ← hll] at hrow
      have hlt : ∀ y ∈ lineS f (q : Int), y < 18446744073709551616 := fun y hy => by
        rw [← lineS_range HHS.out, List.mem_map] at hy
        obtain ⟨p, _, rfl⟩ := hy
        exact getS_lt HX.out.reads.1 _ _
      have HROW := Lib.hid hrow; have HLT := Lib.hid hlt
      have l0 := hbx.cell
      clear hrow hln hll hlt hpre hpl
      gi_wp2
      refine ⟨by simp, .inl ⟨_, _, rfl, run_takeDeferred hK, ?_⟩⟩
      have hown5 := ownsRow_putObj HROW.out (.deferred none) hK rfl
      refine ⟨v, ?_, ⟨_, rfl, made_of_own hown5 HLT.out⟩, hB.trans (belowK_b (w := w) (Nat.le_refl _) W D _ _ (by omega) hK rfl rfl)⟩
      simp [results, Try.f38, go_sem]

end Go.Proofs.Ytkhnoffhbfcgfaa
