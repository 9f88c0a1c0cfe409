/- Plain texts, laid as one. -/
import Derived.Test.YtfnhcgpdlhndhaaM
import Derived.Deep.QuietTactic
import Derived.BigQuiet
import Derived.RangeFuncBox
import Derived.RangeFuncLeaves
import Derived.OwnWalkIn
import Derived.TacticsInMore
import Derived.LoopNIn
import Derived.LoopIn
import Derived.Shelf.Abstract
import Derived.RangeFuncCalls
import Derived.Test.YtfnhcgpdlhndhaaT
import Derived.Maps.AppendAt
import Derived.StillTailTactics
import Derived.Laws.CopyOwn
/- Contracts of package tri: Size, large, and of the library's ContainsFunc at large. -/
namespace Go.Proofs.Ytfnhcgpdlhndhaa
open Go.RowKit Lev

attribute [local go_sem] run_fbits run_frombits order_lt order_gt order_eq order_ne flt_or_feq flt_or_feq'

theorem p420 : makeF false 1 420 = 6498694262295625728 := (makeF_pow 1443 (by decide) (by decide)).2
theorem fle_small (b : Nat) : fle (rg b) 6498694262295625728 = small b := by
  have h1 : ord 6498694262295625728 = 6498694262295625728 := by decide
  have h2 : rg 6498694262295625728 = 6498694262295625728 := by decide
  unfold fle small
  rw [ord_rg, h1, h2, rg_rg, decide_eq_decide, INF_eq]; omega
attribute [local go_sem] p420 fle_small

end Go.Proofs.Ytfnhcgpdlhndhaa

/- The iterator over a factor's rows. -/
namespace Go.Proofs.Ytfnhcgpdlhndhaa
open Go.RowKit Lev

attribute [local go_sem] Oper.semAt_some

theorem take_fin {N k : Nat} (h : k < N) : (List.finRange N).take (k + 1) = (List.finRange N).take k ++ [⟨k, h⟩] := by
  rw [List.take_succ_eq_append_getElem (by rw [List.length_finRange]; exact h)]
  simp

end Go.Proofs.Ytfnhcgpdlhndhaa

/- The contract of tri.Check. -/
namespace Go.Proofs.Ytfnhcgpdlhndhaa
open Go.RowKit Go.Shelf Lev

attribute [local go_sem] Oper.semAt_some

theorem ret_t {a b : Bool} (h : a = b) : Ending.returned (.bool a) = Ending.returned (.bool b) := by rw [h]

theorem Boxed4.new (w : World) (t : TypeId) (v0 v1 v2 v3 : Value) : (w.alloc (.cells #[v0, v1, v2, v3] t)).cell? ⟨w.heap.size, 0, none⟩ = some v0 ∧ (w.alloc (.cells #[v0, v1, v2, v3] t)).cell? ⟨w.heap.size, 1, none⟩ = some v1 := by
  constructor <;> simp [go_sem]

end Go.Proofs.Ytfnhcgpdlhndhaa

/- Contracts of the document's answers for layer 7: Size, At, Check. -/
namespace Go.Proofs.Ytfnhcgpdlhndhaa
open Go.RowKit Go.Shelf Lev

attribute [local go_sem] order_lt order_gt order_eq order_ne flt_or_feq flt_or_feq' p420

theorem q_of {P : Program} {f : FuncId} {args : Array Value} {w : World} {n : Nat} {v : Value} (h : Calls P f args (w.drewN n) fun e w' => e = .returned v ∧ w.drewN n = w') :
    Calls P f args (w.drewN n) fun e w'' => e = .returned v ∧ ∃ m, w'' = w.drewN m := h.mono fun _ _ ⟨he, hm⟩ => ⟨he, n, hm.symm⟩

theorem _root_.Go.RowKit.Below.drewN {B : Nat} {a w : World} (h : Below B a w) (n : Nat) : Below B a (w.drewN n) := ⟨h.os, h.tape, h.output, h.size, h.block⟩

theorem flt_small (b : Nat) : flt 6498694262295625728 (rg b) = decide (6498694262295625728 < rg b ∧ rg b ≤ INF) := by
  have h1 : ord 6498694262295625728 = 6498694262295625728 := by decide
  have h2 : rg 6498694262295625728 = 6498694262295625728 := by decide
  unfold flt
  rw [ord_rg, h1, h2, rg_rg, decide_eq_decide, INF_eq]; omega

theorem flt_small_fin {b : Nat} (hf : fin b) : flt 6498694262295625728 (rg b) = !small b := by
  rw [flt_small]; unfold small; unfold fin at hf
  rw [← decide_not, decide_eq_decide]; omega
theorem ret_t' {a b : Bool} (h : a = b) : Ending.returned (.bool a) = Ending.returned (.bool b) := by rw [h]

theorem size_ne {C : Int} (h1 : 1 ≤ C) (h6 : C ≤ 6) : sizeI C ≠ 0 := by
  rw [size_st (N := (C + 1).toNat) h1 h6 (by omega)]
  have := st_all (C + 1).toNat
  have h3 : 2 ≤ (C + 1).toNat := by omega
  have := Nat.mul_le_mul h3 h3
  omega

theorem ret_ib {i j : Int} {s t : Bool} (h : i = j) (h2 : s = t) : Ending.returned (.tuple #[.int .i64 i, .bool s]) = Ending.returned (.tuple #[.int .i64 j, .bool t]) := by rw [h, h2]

theorem kindS_gt (b : Nat) : decide (1 < kindS b) = !decide (fin b) := by
  rw [← decide_not, decide_eq_decide]
  have := kindS_le (b := b)
  rw [← this]; omega
theorem nS_fin {b : Nat} (h : fin b) : nS b = sg b := by
  have := kindS_le.2 h
  unfold nS; rw [decide_eq_true (by omega), Bool.true_and]

end Go.Proofs.Ytfnhcgpdlhndhaa

/- Lists and factors that are the same: the document's answer. -/
namespace Go.Proofs.Ytfnhcgpdlhndhaa
open Go.RowKit Go.Shelf Lev

theorem sameS_self (x : Nat) : sameS x x = true := by unfold sameS; exact beq_self_eq_true _

end Go.Proofs.Ytfnhcgpdlhndhaa

/- Contracts of package tri: At, New, Get. -/
namespace Go.Proofs.Ytfnhcgpdlhndhaa
open Go.RowKit Go.Shelf Lev

theorem info_f64' : (Try.prog.info? 24).map (fun i => (i.zero, i.size, i.bytes)) = some (some (.float .f64 0), 1, 8) := by kernel_rfl

end Go.Proofs.Ytfnhcgpdlhndhaa

/- The document's answer: a row of a factor. -/
namespace Go.Proofs.Ytfnhcgpdlhndhaa
open Go.RowKit Go.Shelf Lev

theorem take_map (g : Nat → Nat) (j : Nat) : ((List.range (j + 1)).map g).map (Value.float .f64) = ((List.range j).map g).map (Value.float .f64) ++ [.float .f64 (g j)] := by
  rw [List.range_succ, List.map_append, List.map_append]; rfl

theorem madeF_nil (base : Nat) (w : World) : MadeF base w (.slice none 0 0) [] := ⟨none, 0, rfl, ⟨FlR.nil _ _ _, Nat.le_refl _, by decide⟩, fun a ha => by cases ha⟩

end Go.Proofs.Ytfnhcgpdlhndhaa

/- A row of a factor: tri.Line. -/
namespace Go.Proofs.Ytfnhcgpdlhndhaa
open Go.RowKit Go.Shelf Lev

attribute [local go_sem] Oper.semAt_some

theorem namedIn {F : Fence} {n : Nat} {P : Program} {f : FuncId} {args : Array Value} {w : World} {Q : Ending → World → Prop} (h : ∀ W, W = w → CallsIn F n P f args W Q) : CallsIn F n P f args w Q := h w rfl

/-- A row of a number of zeros, with room. -/
theorem own_made (w : World) (e : TypeId) (i c : Nat) (h : i ≤ c) (hc : c ≤ 9223372036854775807) {base : Nat} (hb : base ≤ w.heap.size) :
    (w.alloc (.cells (madeCells #[.float .f64 0] c) e)).ownsRow base e 1 (.slice (some ⟨w.heap.size, 0, none⟩) i c) i (List.replicate i (.float .f64 0)) := by
  refine ⟨by simp, .inr ⟨w.heap.size, c, madeCells #[.float .f64 0] c, rfl, hb, heap_alloc_new w _, h, by unfold maxLen; exact hc, by rw [size_madeCells, Nat.mul_one], ?_⟩⟩
  refine List.ext_getElem (by simp [size_madeCells]; omega) fun j h1 h2 => ?_
  simp [madeCells, Nat.mod_one]

theorem boxed_kept {X Y : World} {row : Option Nat} {g : Nat} {t : TypeId} {v : Value} (h : Boxed X g t v) (hg : X.grownBy Y row) (hr : ∀ r, row = some r → ∃ o : Obj, X.heap[r]? = some o ∧ o.isCells = false) : Boxed Y g t v :=
  h.kept hg fun e' => by
    obtain ⟨o, ho, hc⟩ := hr g e'.symm
    rw [show X.heap[g]? = _ from h] at ho; cases ho; cases hc

theorem own_cells {W : World} {base : Nat} {e : TypeId} {size k : Nat} {v : Value} {xs : List Value} (h : W.ownsRow base e size v k xs) : ∀ (j : Nat) (o : Obj), v.ownBlock = some j → W.heap[j]? = some o → o.isCells = true := by
  intro j o ej hj
  rcases h.2 with ⟨rfl, _⟩ | ⟨g, cap, cur, rfl, _, hgb, _⟩
  · simp [Value.ownBlock] at ej
  · obtain rfl : g = j := by simpa [Value.ownBlock] using ej
    rw [hgb] at hj; cases hj; rfl

/-- An append onto a row in a variable's box, no cell laid for it. -/
theorem appended0 {W w1 : World} {n₀ B : Nat} {t e : TypeId} {size : Nat} {v v' : Value} {k m : Nat} {xs ys : List Value}
    (hv : Boxed W B t v) (hte : t ≠ e) (hrow : W.ownsRow n₀ e size v k xs) (hn₀ : n₀ ≤ W.heap.size) (hB : n₀ ≤ B)
    (hown' : w1.ownsRow n₀ e size v' m ys) (hgrow : W.grownBy w1 v.ownBlock) :
    Boxed w1 B t v ∧ Boxed (w1.setCell ⟨B, 0, none⟩ v') B t v' ∧ (w1.setCell ⟨B, 0, none⟩ v').ownsRow n₀ e size v' m ys ∧ KeepsOthers W (w1.setCell ⟨B, 0, none⟩ v') ∧ Below n₀ W (w1.setCell ⟨B, 0, none⟩ v') := by
  have hv1 : Boxed w1 B t v := hv.kept hgrow (hv.not_row hte hrow)
  refine ⟨hv1, hv1.set v', hown'.kept (grownBy_setCell' w1 B v') (.inr (hv1.not_row hte hown').symm), ?_, ?_⟩
  · exact (KeepsOthers.of_grownBy hgrow (own_cells hrow)).trans (KeepsOthers.setCell _ _ _)
  · exact ((Below.refl n₀ W).grown hgrow hn₀ fun j ej => (hrow.lt j ej).1).setCell (p := ⟨B, 0, none⟩) hB v'

/-- The number of the row that came last. -/
def lastx {N : Nat} (pre : List (Fin N)) : Nat := match pre.getLast? with | some x => x.1 | none => 0
theorem lastx_snoc {N : Nat} (pre : List (Fin N)) (x : Fin N) : lastx (pre ++ [x]) = x.1 := by unfold lastx; rw [List.getLast?_concat]
theorem lastx_take {N k : Nat} (hk : k < N) : lastx ((List.finRange N).take (k + 1)) = k := by rw [take_fin hk, lastx_snoc]

def rowV (N : Nat) (xs : List Nat) (k : Nat) : List Value := ((xs.drop (st N k)).take (N - k)).map (Value.float .f64)
theorem rowV_length {N k : Nat} {xs : List Nat} (hk : k < N) (hl : xs.length = st N N) : (rowV N xs k).length = N - k := by
  have := st_end hk
  rw [st_succ] at this
  unfold rowV
  rw [List.length_map, List.length_take, List.length_drop]; omega
theorem rowV_get {N k j : Nat} {xs : List Nat} {u : Value} (h : (rowV N xs k)[j]? = some u) : st N k + j < xs.length ∧ j < N - k ∧ u = .float .f64 (xs[st N k + j]?.getD 0) := by
  unfold rowV at h
  rw [List.getElem?_map] at h
  cases h2 : ((xs.drop (st N k)).take (N - k))[j]? with
  | none => rw [h2] at h; cases h
  | some y =>
    rw [h2] at h
    have hj := (List.getElem?_eq_some_iff.1 h2).1
    rw [List.length_take, List.length_drop] at hj
    rw [List.getElem?_take_of_lt (by omega), List.getElem?_drop] at h2
    refine ⟨by omega, by omega, ?_⟩
    rw [h2]; cases h; rfl

end Go.Proofs.Ytfnhcgpdlhndhaa

/- A factor with a row set: tri.Set. -/
namespace Lev
open Go
theorem splice_set {cur : List Value} {xs l : List Nat} {N i : Nat} (hcur : cur.take xs.length = xs.map (Value.float .f64)) (hlen : xs.length = st N N) (hi : i < N) (hl : l.length = N) :
    ∀ p, p < xs.length → (splice cur (st N i) ((l.drop i).map (Value.float .f64)))[p]? = some (.float .f64 (setP N i l xs p)) := by
  intro p hp
  have h1 := st_end hi
  rw [st_succ] at h1
  have hcl : xs.length ≤ cur.length := by
    have := congrArg List.length hcur
    rw [List.length_take, List.length_map] at this; omega
  have hold : cur[p]? = some (.float .f64 (xs[p]?.getD 0)) := by
    have h2 := congrArg (·[p]?) hcur
    simp only [List.getElem?_map] at h2
    rw [List.getElem?_take_of_lt hp, List.getElem?_eq_getElem hp] at h2
    rw [h2, List.getElem?_eq_getElem hp]; rfl
  have hcs : ((l.drop i).map (Value.float .f64)).length = N - i := by rw [List.length_map, List.length_drop, hl]
  unfold splice setP
  rw [st_succ, hcs]
  by_cases hin : st N i ≤ p ∧ p < st N i + (N - i)
  · rw [if_pos hin, List.getElem?_append_right (by rw [List.length_take]; omega), List.length_take, Nat.min_eq_left (by omega), List.getElem?_append_left (by rw [hcs]; omega), List.getElem?_map, List.getElem?_drop, List.getElem?_eq_getElem (by omega)]
    rfl
  · rw [if_neg hin]
    by_cases hlt : p < st N i
    · rw [List.getElem?_append_left (by rw [List.length_take]; omega), List.getElem?_take_of_lt hlt, hold]
    · rw [List.getElem?_append_right (by rw [List.length_take]; omega), List.length_take, Nat.min_eq_left (by omega), List.getElem?_append_right (by rw [hcs]; omega), hcs, List.getElem?_drop]
      have e : st N i + (N - i) + (p - st N i - (N - i)) = p := by omega
      rw [e, hold]
end Lev
namespace Go.Proofs.Ytfnhcgpdlhndhaa
open Go.RowKit Go.Shelf Lev

end Go.Proofs.Ytfnhcgpdlhndhaa

/- The document's answer: a factor with a row set. -/
namespace Lev
/-- Entry p behind the setting of row i up to column j. -/
def setM (N i : Nat) (l xs : List Nat) (j p : Nat) : Nat := if st N i ≤ p ∧ p < st N i + (j - i) then l[i + (p - st N i)]?.getD 0 else xs[p]?.getD 0
theorem setM_start (N i : Nat) (l xs : List Nat) (p : Nat) : setM N i l xs i p = xs[p]?.getD 0 := by unfold setM; rw [if_neg (by omega)]
theorem setM_end (N i : Nat) (l xs : List Nat) (p : Nat) : setM N i l xs N p = setP N i l xs p := by unfold setM setP; rw [st_succ]
theorem setM_step (N i : Nat) (l xs : List Nat) (j p : Nat) (h : i ≤ j) : setM N i l xs (j + 1) p = if p = st N i + (j - i) then l[j]?.getD 0 else setM N i l xs j p := by
  unfold setM
  by_cases hp : p = st N i + (j - i)
  · rw [if_pos (by omega), if_pos hp]; congr 2; omega
  · rw [if_neg hp]
    by_cases h2 : st N i ≤ p ∧ p < st N i + (j - i)
    · rw [if_pos h2, if_pos (by omega)]
    · rw [if_neg h2, if_neg (by omega)]
end Lev
namespace Go.Proofs.Ytfnhcgpdlhndhaa
open Go.RowKit Go.Shelf Lev

attribute [local go_sem] run_store_float

end Go.Proofs.Ytfnhcgpdlhndhaa

/- More small words: what lay below is kept, step by step. -/
namespace Go.Proofs.Ytfnhcgpdlhndhaa
open Go.RowKit Lev
theorem Below.allocs {a w : World} (h : Below a.heap.size a w) (o : Obj) : Below a.heap.size a (w.alloc o) := h.alloc h.size o
theorem Below.sets {a w : World} (h : Below a.heap.size a w) {p : Addr} (hp : a.heap.size ≤ p.block) (u : Value) : Below a.heap.size a (w.setCell p u) := h.setCell hp u
theorem Below.drews {a w : World} (h : Below a.heap.size a w) : Below a.heap.size a w.drew := h.drew
theorem Below.drewNs {a w : World} (h : Below a.heap.size a w) (n : Nat) : Below a.heap.size a (w.drewN n) := h.drewN n
theorem Keep.drew {w W : World} {L M} (h : Keep w W L M) : Keep w W.drew L M := h.call ⟨rfl, rfl, rfl, Nat.le_refl _, fun _ _ => rfl⟩
theorem Bk.all4 {w : World} {g : Nat} {t : TypeId} {v0 v1 v2 v3 : Value} (h : Bk w g t #[v0, v1, v2, v3]) : (w.cell? ⟨g, 0, none⟩ = some v0 ∧ w.cell? ⟨g, 1, none⟩ = some v1 ∧ w.cell? ⟨g, 2, none⟩ = some v2 ∧ w.cell? ⟨g, 3, none⟩ = some v3) ∧
    w.frozen? ⟨g, 0, none⟩ = false ∧ w.frozen? ⟨g, 1, none⟩ = false ∧ w.frozen? ⟨g, 2, none⟩ = false ∧ w.frozen? ⟨g, 3, none⟩ = false := ⟨h.c4, h.f4⟩
end Go.Proofs.Ytfnhcgpdlhndhaa
