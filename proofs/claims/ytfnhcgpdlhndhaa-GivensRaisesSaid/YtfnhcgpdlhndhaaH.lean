/- Plain texts, laid as one. -/
import Derived.Test.YtfnhcgpdlhndhaaFj
import Derived.Test.YtfnhcgpdlhndhaaG
import Derived.BigQuiet
import Derived.Laws.NewBlocks
import Derived.Deep.RegionWith
import Derived.Test.YtfnhcgpdlhndhaaT
import Derived.Laws.StructEq
/- Contracts of levellingref06: Turn. -/
namespace Lev
def turnU (c s x y : Nat) : Nat := arS .add (arS .mul c x) (arS .mul s y)
def turnV (c s x y : Nat) : Nat := arS .sub (arS .mul c y) (arS .mul s x)
end Lev
namespace Go.Proofs.Ytfnhcgpdlhndhaa
open Go.RowKit Go.Shelf Lev

attribute [local go_sem] run_add_all run_sub_all run_mul_all run_quo_all

end Go.Proofs.Ytfnhcgpdlhndhaa

/- Contracts of package givens: Turn. -/
namespace Go.Proofs.Ytfnhcgpdlhndhaa
open Go.RowKit Go.Shelf Lev

section
variable (w : World) (n : Nat) (c : Array Value) (t : TypeId) (i : Nat) (v : Value) (o : Obj)
theorem d1c : ((w.drewN n).alloc (.cells c t)).cell? ⟨w.heap.size, i, none⟩ = c[i]? := World.cell?_alloc_at c t _ i rfl
theorem d2c : (((w.drewN n).alloc (.cells c t)).alloc o).cell? ⟨w.heap.size, i, none⟩ = c[i]? := by
  rw [World.cell?_alloc_past _ _ _ (by simp), d1c]
theorem d3c : (((w.drewN n).alloc o).alloc (.cells c t)).cell? ⟨w.heap.size + 1, i, none⟩ = c[i]? := World.cell?_alloc_at c t _ i (by simp)
theorem d1f : ((w.drewN n).alloc (.cells c t)).frozen? ⟨w.heap.size, i, none⟩ = false := World.frozen?_alloc_at c t _ i rfl
theorem d2f : (((w.drewN n).alloc (.cells c t)).alloc o).frozen? ⟨w.heap.size, i, none⟩ = false := by
  rw [World.frozen?_alloc_past _ _ _ (by simp), d1f]
theorem d3f : (((w.drewN n).alloc o).alloc (.cells c t)).frozen? ⟨w.heap.size + 1, i, none⟩ = false := World.frozen?_alloc_at c t _ i (by simp)
theorem d1s : ((w.drewN n).alloc (.cells c t)).setCell ⟨w.heap.size, i, none⟩ v = (w.drewN n).alloc (.cells (c.setIfInBounds i v) t) := World.setCell_alloc_at c t _ i v rfl
theorem d2s : (((w.drewN n).alloc (.cells c t)).alloc o).setCell ⟨w.heap.size, i, none⟩ v = ((w.drewN n).alloc (.cells (c.setIfInBounds i v) t)).alloc o := by
  rw [World.setCell_alloc_past _ _ _ _ (by simp), d1s]
theorem d3s : (((w.drewN n).alloc o).alloc (.cells c t)).setCell ⟨w.heap.size + 1, i, none⟩ v = ((w.drewN n).alloc o).alloc (.cells (c.setIfInBounds i v) t) := World.setCell_alloc_at c t _ i v (by simp)
end

attribute [local go_sem] run_add_all run_sub_all run_mul_all run_quo_all run_store_float d1c d2c d3c d1f d2f d3f d1s d2s d3s

set_option maxRecDepth 100000 in
set_option maxHeartbeats 2000000 in
theorem gturn_any (c s x y : Nat) (w : World) :
    Calls Try.prog 35 #[.float .f64 c, .float .f64 s, .float .f64 x, .float .f64 y] w fun e w' => (∃ u v, e = .returned (.tuple #[.float .f64 u, .float .f64 v]) ∧ cn u = turnU c s x y ∧ cn v = turnV c s x y ∧ u < 18446744073709551616 ∧ v < 18446744073709551616) ∧ Below w.heap.size w w' := by
  go_enter Try.func35, Try.ntmps35
  go_wp2_with fail
  have e1 := Lib.hid (cn_arV .mul c x w)
  have e2 := Lib.hid (cn_arV .mul c y (w.drewN (arN .mul c x)))
  have e3 := Lib.hid (cn_arV .mul s y (w.drewN (arN .mul c x + arN .mul c y)))
  have e4 := Lib.hid (cn_arV .mul s x (w.drewN (arN .mul c x + arN .mul c y + arN .mul s y)))
  generalize arV .mul c x w = p at *
  generalize arV .mul c y (w.drewN (arN .mul c x)) = q at *
  generalize arV .mul s y (w.drewN (arN .mul c x + arN .mul c y)) = r at *
  generalize arV .mul s x (w.drewN (arN .mul c x + arN .mul c y + arN .mul s y)) = u at *
  have hb : Below w.heap.size w (((w.drewN (arN .mul c x + arN .mul c y + arN .mul s y + arN .mul s x)).alloc (.cells #[.float .f64 p, .float .f64 q] 78)).alloc (.cells #[.float .f64 r, .float .f64 u] 78)) := by
    repeat (first | exact Below.refl _ _ | refine Below.allocs ?_ _ | refine Below.drewNs ?_ _)
  have c1 := d2c w (arN .mul c x + arN .mul c y + arN .mul s y + arN .mul s x) #[.float .f64 p, .float .f64 q] 78 0 (.cells #[.float .f64 r, .float .f64 u] 78)
  have c2 := d2c w (arN .mul c x + arN .mul c y + arN .mul s y + arN .mul s x) #[.float .f64 p, .float .f64 q] 78 1 (.cells #[.float .f64 r, .float .f64 u] 78)
  have c3 := d3c w (arN .mul c x + arN .mul c y + arN .mul s y + arN .mul s x) #[.float .f64 r, .float .f64 u] 78 0 (.cells #[.float .f64 p, .float .f64 q] 78)
  have c4 := d3c w (arN .mul c x + arN .mul c y + arN .mul s y + arN .mul s x) #[.float .f64 r, .float .f64 u] 78 1 (.cells #[.float .f64 p, .float .f64 q] 78)
  generalize ((w.drewN (arN .mul c x + arN .mul c y + arN .mul s y + arN .mul s x)).alloc (.cells #[.float .f64 p, .float .f64 q] 78)).alloc (.cells #[.float .f64 r, .float .f64 u] 78) = X at *
  replace c1 : X.cell? ⟨w.heap.size, 0, none⟩ = some (.float .f64 p) := c1
  replace c2 : X.cell? ⟨w.heap.size, 1, none⟩ = some (.float .f64 q) := c2
  replace c3 : X.cell? ⟨w.heap.size + 1, 0, none⟩ = some (.float .f64 r) := c3
  replace c4 : X.cell? ⟨w.heap.size + 1, 1, none⟩ = some (.float .f64 u) := c4
  have B := Lib.hid hb
  clear hb
  go_region_with (fail)
  all_goals
    go_wp2
    go_ret2
    exact ⟨⟨_, _, rfl, by rw [cn_arV, arS_cn _ (.inl rfl), e1.out, e3.out]; rfl, by rw [cn_arV, arS_cn _ (.inr (.inl rfl)), e2.out, e4.out]; rfl, arV_lt _ _ _ _, arV_lt _ _ _ _⟩, Below.drewNs B.out _⟩

end Go.Proofs.Ytfnhcgpdlhndhaa

/- Contracts: Down, of the code and of the document. -/
namespace Lev
theorem cn_cn (a : Nat) : cn (cn a) = cn a := by
  by_cases h : INF < rg a
  · rw [cn_nan h]; exact cn_nan nanc_nan
  · rw [cn_num h, cn_num h]
theorem cn_arS (op : Go.BinOp) (a b : Nat) : cn (arS op a b) = arS op a b := by
  unfold arS
  cases Go.floatBits op .f64 a b with
  | some r => exact cn_cn r
  | none => exact cn_nan nanc_nan
theorem arS_l (op : Go.BinOp) (hop : op = .add ∨ op = .sub ∨ op = .mul ∨ op = .quo) {p q : Nat} (h : cn p = q) (hq : cn q = q) (b : Nat) : arS op p b = arS op q b := by
  rw [arS_cn op hop p b, h, arS_cn op hop q b, hq]
theorem arS_r (op : Go.BinOp) (hop : op = .add ∨ op = .sub ∨ op = .mul ∨ op = .quo) {p q : Nat} (h : cn p = q) (hq : cn q = q) (b : Nat) : arS op b p = arS op b q := by
  rw [arS_cn op hop b p, h, arS_cn op hop b q, hq]
def downP (c s r x : Nat) : Nat := arS .quo (arS .sub r (arS .mul s x)) c
def downV (c s r x : Nat) : Nat := arS .sub (arS .mul c x) (arS .mul s (downP c s r x))
end Lev
namespace Go.Proofs.Ytfnhcgpdlhndhaa
open Go.RowKit Go.Shelf Lev

theorem down_cn (c s r x : Nat) (w1 w2 w3 w4 w5 w6 : World) : cn (arV .quo (arV .sub r (arV .mul s x w1) w2) c w3) = downP c s r x ∧
    cn (arV .sub (arV .mul c x w4) (arV .mul s (arV .quo (arV .sub r (arV .mul s x w1) w2) c w3) w5) w6) = downV c s r x := by
  have h1 : cn (arV .quo (arV .sub r (arV .mul s x w1) w2) c w3) = downP c s r x := by
    rw [cn_arV, arS_l .quo (by simp) (cn_arV .sub r _ w2) (cn_arS _ _ _), arS_r .sub (by simp) (cn_arV .mul s x w1) (cn_arS _ _ _)]; rfl
  have h1c : cn (downP c s r x) = downP c s r x := cn_arS _ _ _
  refine ⟨h1, ?_⟩
  rw [cn_arV, arS_l .sub (by simp) (cn_arV .mul c x w4) (cn_arS _ _ _), arS_r .sub (by simp) (cn_arV .mul s _ w5) (cn_arS _ _ _), arS_r .mul (by simp) h1 h1c]; rfl

attribute [local go_sem] run_add_all run_sub_all run_mul_all run_quo_all

set_option maxHeartbeats 400000 in
theorem gdown_any (c s r x : Nat) (w : World) :
    Calls Try.prog 39 #[.float .f64 c, .float .f64 s, .float .f64 r, .float .f64 x] w fun e w' => (∃ u v, e = .returned (.tuple #[.float .f64 u, .float .f64 v]) ∧ cn u = downP c s r x ∧ cn v = downV c s r x ∧ u < 18446744073709551616 ∧ v < 18446744073709551616) ∧ ∃ n, w' = w.drewN n := by
  go_enter Try.func39, Try.ntmps39
  go_wp2
  go_ret2
  exact ⟨⟨_, _, rfl, (down_cn _ _ _ _ _ _ _ w w w).1, (down_cn _ _ _ _ _ _ _ _ _ _).2, arV_lt _ _ _ _, arV_lt _ _ _ _⟩, _, rfl⟩

end Go.Proofs.Ytfnhcgpdlhndhaa

/- Contracts: what is a number, of givens and of the document. -/
namespace Go.Proofs.Ytfnhcgpdlhndhaa
open Go.RowKit Go.Shelf Lev

def numB (x : Nat) : Bool := decide (fin x)
theorem numB_kind (x : Nat) : decide (kindS x ≤ 1) = numB x := by unfold numB; rw [decide_eq_decide]; exact kindS_le
theorem numB_kind' (x : Nat) : decide (1 < kindS x) = !numB x := by
  rw [← numB_kind, ← decide_not, decide_eq_decide]; omega

theorem idx0 (a b : Value) (w : World) : (Instr.index 55 (.agg #[a, b]) (.int .i64 0)).run Try.prog w = .ok a w := by kernel_rfl
theorem idx1 (a b : Value) (w : World) : (Instr.index 55 (.agg #[a, b]) (.int .i64 1)).run Try.prog w = .ok b w := by kernel_rfl

def MayEnd (b : Bool) (w : World) (e : Ending) (w' : World) : Prop := e = .returned (.bool b) ∧ Below w.heap.size w w'
def MayAt (x y : Nat) (i : Value) : Prop := i = .int .i64 0 ∨ (i = .int .i64 1 ∧ numB x = true) ∨ (i = .int .i64 2 ∧ numB x = true ∧ numB y = true)

set_option maxRecDepth 100000 in
set_option maxHeartbeats 1000000 in
theorem gmay_any (x y : Nat) (hx : x < 18446744073709551616) (hy : y < 18446744073709551616) (w : World) :
    Calls Try.prog 58 #[.agg #[.float .f64 x, .float .f64 y]] w (MayEnd (numB x && numB y) w) := by
  have HX := Lib.hid (fun W => split_any x hx W)
  have HY := Lib.hid (fun W => split_any y hy W)
  have KX := Lib.hid (numB_kind' x)
  have KY := Lib.hid (numB_kind' y)
  unfold splitV at HX HY
  have i0 := idx0 (.float .f64 x) (.float .f64 y)
  have i1 := idx1 (.float .f64 x) (.float .f64 y)
  clear hx hy
  go_enter Try.func58, Try.ntmps58
  go_wp2_with fail
  go_loop [14] (fun i => MayAt x y i) (fun i => 2 - (intOf i).toNat)
  case atStart => exact .inl rfl
  case round =>
    have HB := Lib.hid (show Below w.heap.size w (w.alloc (.cells #[.float .f64 x, .float .f64 y] 78)) from (Below.refl _ _).alloc (Nat.le_refl _) _)
    rcases hrel with rfl | ⟨rfl, hx⟩ | ⟨rfl, hx, hy⟩
    · cases hb : numB x
      · have k := KX.out
        rw [hb] at k
        have k2 := Lib.hid hb
        clear hb
        go_wp2_with (go_at_call 76; refine (HX.out _).mono ?_; rintro e w' ⟨rfl, rfl⟩)
        go_ret
        exact ⟨ret_bool rfl, HB.out⟩
      · have k := KX.out
        rw [hb] at k
        have k2 := Lib.hid hb
        clear hb
        go_wp2_with (go_at_call 76; refine (HX.out _).mono ?_; rintro e w' ⟨rfl, rfl⟩)
        go_round
        case rel => exact .inr (.inl ⟨by go_num, k2.out⟩)
        case measure => simp [intOf]
    · have hx1 := Lib.hid hx
      clear hx
      cases hb : numB y
      · have k := KY.out
        rw [hb] at k
        have k2 := Lib.hid hb
        clear hb
        go_wp2_with (go_at_call 76; refine (HY.out _).mono ?_; rintro e w' ⟨rfl, rfl⟩)
        go_ret
        exact ⟨ret_bool (Bool.and_false _).symm, HB.out⟩
      · have k := KY.out
        rw [hb] at k
        have k2 := Lib.hid hb
        clear hb
        go_wp2_with (go_at_call 76; refine (HY.out _).mono ?_; rintro e w' ⟨rfl, rfl⟩)
        go_round
        case rel => exact .inr (.inr ⟨by go_num, hx1.out, k2.out⟩)
        case measure => simp [intOf]
    · have hx1 := Lib.hid hx
      have hy1 := Lib.hid hy
      clear hx hy
      go_wp2
      go_ret
      exact ⟨ret_bool (by rw [hx1.out, hy1.out]; rfl), HB.out⟩

theorem eqFloat (x y : Nat) (w : World) : (Op.equalIn 9999 24 (.float .f64 x) (.float .f64 y)).run Try.prog w = .ok (feq x y) w := by
  rw [show (9999 : Nat) = 9998 + 1 from rfl, Op.equalIn]
  simp only [Sem.run_bind, run_underlying Try.underlying24, Result.andThen_ok]
  rw [← order_eq]
  rfl
/-- The zero pair is equal to a pair of zeros. -/
theorem eqPair (x y : Nat) (w : World) : (Op.equalIn 10000 78 (.agg #[.float .f64 x, .float .f64 y]) (.agg #[.float .f64 0, .float .f64 0])).run Try.prog w = .ok (feq x 0 && feq y 0) w := by
  have hS : Try.prog.underlying 78 = some (.struct (Try.prog.fieldsOf 78)) := by kernel_rfl
  have hp : Try.prog.stoodInHeld 78 = false := by kernel_rfl
  rw [show (10000 : Nat) = 9999 + 1 from rfl, run_equalIn_agg w 9999 78 _ _ hS hp]
  simp only [Program.fieldsOf, Try.underlying78]
  go_simp
  rw [eqFloat]
  show (if feq x 0 = false then Result.ok false w else _) = _
  cases feq x 0
  · rfl
  · rw [if_neg (by decide), eqFloat]
    show (if feq y 0 = false then Result.ok false w else Result.ok true w) = _
    cases feq y 0 <;> rfl

end Go.Proofs.Ytfnhcgpdlhndhaa

/- Contracts: Hyper, of the code and of the document. -/
set_option linter.unusedVariables false
namespace Lev
def hypT (r x : Nat) : Go.Value :=
  if fin r ∧ fin x then (if rg r = 0 ∧ rg x = 0 then .tuple #[.float .f64 4607182418800017408, .float .f64 0, .bool true] else if hypB r x = true then .tuple #[.float .f64 (hypC r x), .float .f64 (hypS r x), .bool true] else .tuple #[.float .f64 0, .float .f64 0, .bool false])
  else .tuple #[.float .f64 0, .float .f64 0, .bool false]
end Lev
namespace Go.Proofs.Ytfnhcgpdlhndhaa
open Go.RowKit Go.Shelf Lev

attribute [local go_sem] order_lt order_gt order_eq order_ne flt_or_feq flt_or_feq' eqFloat run_store_float

theorem Bk.c2' {w : World} {g : Nat} {t : TypeId} {v0 v1 : Value} (h : Bk w g t #[v0, v1]) : w.cell? ⟨g, 0, none⟩ = some v0 ∧ w.cell? ⟨g, 1, none⟩ = some v1 :=
  ⟨h.cell 0, h.cell 1⟩
theorem pair_kept {w w1 : World} {x y : Nat} (hb : Below (w.alloc (.cells #[.float .f64 x, .float .f64 y] 78)).heap.size (w.alloc (.cells #[.float .f64 x, .float .f64 y] 78)) w1) :
    w1.cell? ⟨w.heap.size, 0, none⟩ = some (.float .f64 x) ∧ w1.cell? ⟨w.heap.size, 1, none⟩ = some (.float .f64 y) ∧ Below w.heap.size w w1 ∧ w1.frozen? ⟨w.heap.size, 0, none⟩ = false ∧ w1.frozen? ⟨w.heap.size, 1, none⟩ = false := by
  have b := (Bk.new w 78 #[.float .f64 x, .float .f64 y]).below hb (by simp)
  exact ⟨b.cell 0, b.cell 1, Below.chain ((Below.refl _ _).alloc (Nat.le_refl _) _) hb, b.frozen 0, b.frozen 1⟩

set_option maxRecDepth 100000 in
set_option maxHeartbeats 1000000 in
theorem ghyper_no (r x : Nat) (hr64 : r < 18446744073709551616) (hx64 : x < 18446744073709551616) (hn : (numB r && numB x) = false) (w : World) :
    Calls Try.prog 38 #[.float .f64 r, .float .f64 x] w fun e w' => e = .returned (.tuple #[.float .f64 0, .float .f64 0, .bool false]) ∧ Below w.heap.size w w' := by
  have HM := Lib.hid (gmay_any r x hr64 hx64)
  rw [hn] at HM
  clear hn
  clear hr64 hx64
  go_enter Try.func38, Try.ntmps38
  go_wp2_with fail
  refine (HM.out _).mono ?_
  rintro e w1 ⟨rfl, hb1⟩
  obtain ⟨c1, c2, hb2, z1, z2⟩ := pair_kept hb1
  have HB := Lib.hid hb2
  clear hb1 hb2
  go_wp2
  go_ret3
  exact ⟨rfl, HB.out⟩

set_option maxRecDepth 100000 in
set_option maxHeartbeats 1000000 in
theorem ghyper_zero (r x : Nat) (hr64 : r < 18446744073709551616) (hx64 : x < 18446744073709551616) (hr : rg r = 0) (hx : rg x = 0) (w : World) :
    Calls Try.prog 38 #[.float .f64 r, .float .f64 x] w fun e w' => e = .returned (.tuple #[.float .f64 4607182418800017408, .float .f64 0, .bool true]) ∧ Below w.heap.size w w' := by
  have fr : fin r := by have := INF_eq; unfold fin; omega
  have fx : fin x := by have := INF_eq; unfold fin; omega
  have nr : numB r = true := decide_eq_true fr
  have nx : numB x = true := decide_eq_true fx
  have HM := Lib.hid (gmay_any r x hr64 hx64)
  rw [nr, nx] at HM
  clear nr nx
  have qr : feq r 0 = true := by rw [feq_zero]; exact decide_eq_true hr
  have qx : feq x 0 = true := by rw [feq_zero]; exact decide_eq_true hx
  clear fr fx hr hx
  clear hr64 hx64
  go_enter Try.func38, Try.ntmps38
  go_wp2_with fail
  refine (HM.out _).mono ?_
  rintro e w1 ⟨rfl, hb1⟩
  obtain ⟨c1, c2, hb2, z1, z2⟩ := pair_kept hb1
  have HB := Lib.hid hb2
  clear hb1 hb2
  go_wp2
  go_ret3
  exact ⟨rfl, HB.out⟩

set_option maxRecDepth 100000 in
set_option maxHeartbeats 1000000 in
theorem ghyper_inf (r x : Nat) (hr64 : r < 18446744073709551616) (hx64 : x < 18446744073709551616) (fx : fin x) (hr : rg r = 0) (hx : rg x ≠ 0) (w : World) :
    Calls Try.prog 38 #[.float .f64 r, .float .f64 x] w fun e w' => e = .returned (.tuple #[.float .f64 0, .float .f64 0, .bool false]) ∧ Below w.heap.size w w' := by
  have fr : fin r := by have := INF_eq; unfold fin; omega
  have nr : numB r = true := decide_eq_true fr
  have nx : numB x = true := decide_eq_true fx
  have HM := Lib.hid (gmay_any r x hr64 hx64)
  rw [nr, nx] at HM
  clear nr nx
  have qr : feq r 0 = true := by rw [feq_zero]; exact decide_eq_true hr
  have qx : feq x 0 = false := by rw [feq_zero]; exact decide_eq_false hx
  have hd := div_zero fx hx hr
  have hd' : floatBits .quo .f64 x r = some (D.word (sg x ^^ sg r) INF) := hd
  have hrun := fun (w : World) => run_float_arith (P := Try.prog) w .quo 24 .f64 _ _ _ hd'
  have hs64 : D.word (sg x ^^ sg r) INF < 18446744073709551616 := word_lt64 _ _ (by decide)
  have ht : flt (rg (D.word (sg x ^^ sg r) INF)) 4607182418800017408 = false := by rw [rg_word _ _ (by decide)]; decide
  have HA := Lib.hid (fun W => abs_any _ hs64 W)
  clear hd hd' hs64
  generalize D.word (sg x ^^ sg r) INF = s at *
  clear fr fx hr hx
  clear hr64 hx64
  go_enter Try.func38, Try.ntmps38
  go_wp2_with fail
  refine (HM.out _).mono ?_
  rintro e w1 ⟨rfl, hb1⟩
  obtain ⟨c1, c2, hb2, z1, z2⟩ := pair_kept hb1
  have HB := Lib.hid hb2
  clear hb1 hb2
  go_wp2_with (first | (go_at_call 19; refine (HA.out _).mono ?_; rintro e w' ⟨rfl, rfl⟩))
  go_ret3
  exact ⟨rfl, HB.out⟩

set_option maxRecDepth 100000 in
set_option maxHeartbeats 1000000 in
theorem ghyper_yes (r x : Nat) (hr64 : r < 18446744073709551616) (hx64 : x < 18446744073709551616) (fr : fin r) (fx : fin x) (hr : rg r ≠ 0) (hb : rg (hypS r x) < oneF) (w : World) :
    Calls Try.prog 38 #[.float .f64 r, .float .f64 x] w fun e w' => e = .returned (.tuple #[.float .f64 (hypC r x), .float .f64 (hypS r x), .bool true]) ∧ Below w.heap.size w w' := by
  have nr : numB r = true := decide_eq_true fr
  have nx : numB x = true := decide_eq_true fx
  have HM := Lib.hid (gmay_any r x hr64 hx64)
  rw [nr, nx] at HM
  clear nr nx
  have qr : feq r 0 = false := by rw [feq_zero]; exact decide_eq_false hr
  obtain ⟨hd, hs64, _⟩ := hypS_spec fr fx hr
  have hd' : floatBits .quo .f64 x r = some (hypS r x) := hd
  have hrun := fun (w : World) => run_float_arith (P := Try.prog) w .quo 24 .f64 _ _ _ hd'
  have HA := Lib.hid (fun W => abs_any _ hs64 W)
  have ht : flt (rg (hypS r x)) 4607182418800017408 = true := by rw [← oneF_eq, test_code]; exact decide_eq_true hb
  obtain ⟨f1, f2, f3, f4, _⟩ := hyp_facts hb
  have g1 : floatBits .sub .f64 4607182418800017408 (hypS r x) = some (fsub oneF (hypS r x)) := f1
  have g2 : floatBits .add .f64 4607182418800017408 (hypS r x) = some (fadd oneF (hypS r x)) := f2
  have g3 : floatBits .mul .f64 (fsub oneF (hypS r x)) (fadd oneF (hypS r x)) = some (fmul (fsub oneF (hypS r x)) (fadd oneF (hypS r x))) := f3
  have r1 := fun (w : World) => run_float_arith (P := Try.prog) w .sub 24 .f64 _ _ _ g1
  have r2 := fun (w : World) => run_float_arith (P := Try.prog) w .add 24 .f64 _ _ _ g2
  have r3 := fun (w : World) => run_float_arith (P := Try.prog) w .mul 24 .f64 _ _ _ g3
  have HS := Lib.hid (fun W => sqrt_any _ _ f4 W)
  clear f1 f2 f3 f4 g1 g2 g3
  have HC := Lib.hid (show sqrtF (fmul (fsub oneF (hypS r x)) (fadd oneF (hypS r x))) = hypC r x from rfl)
  clear hd hd' hs64 hb
  generalize fmul (fsub oneF (hypS r x)) (fadd oneF (hypS r x)) = m at *
  generalize fsub oneF (hypS r x) = lo at *
  generalize fadd oneF (hypS r x) = hi at *
  generalize hypS r x = s at *
  clear fr fx hr
  clear hr64 hx64
  go_enter Try.func38, Try.ntmps38
  go_wp2_with fail
  refine (HM.out _).mono ?_
  rintro e w1 ⟨rfl, hb1⟩
  obtain ⟨c1, c2, hb2, z1, z2⟩ := pair_kept hb1
  have HB := Lib.hid hb2
  clear hb1 hb2
  go_wp2_with (first | (go_at_call 19; refine (HA.out _).mono ?_; rintro e w' ⟨rfl, rfl⟩) | (go_at_call 51; refine (HS.out _).mono ?_; rintro e w' ⟨rfl, rfl⟩))
  go_ret3
  exact ⟨by first | (rw [HC.out]; done) | (rw [HC.out]; rfl), HB.out⟩

set_option maxRecDepth 100000 in
set_option maxHeartbeats 1000000 in
theorem ghyper_far (r x : Nat) (hr64 : r < 18446744073709551616) (hx64 : x < 18446744073709551616) (fr : fin r) (fx : fin x) (hr : rg r ≠ 0) (hb : ¬ rg (hypS r x) < oneF) (w : World) :
    Calls Try.prog 38 #[.float .f64 r, .float .f64 x] w fun e w' => e = .returned (.tuple #[.float .f64 0, .float .f64 0, .bool false]) ∧ Below w.heap.size w w' := by
  have nr : numB r = true := decide_eq_true fr
  have nx : numB x = true := decide_eq_true fx
  have HM := Lib.hid (gmay_any r x hr64 hx64)
  rw [nr, nx] at HM
  clear nr nx
  have qr : feq r 0 = false := by rw [feq_zero]; exact decide_eq_false hr
  obtain ⟨hd, hs64, _⟩ := hypS_spec fr fx hr
  have hd' : floatBits .quo .f64 x r = some (hypS r x) := hd
  have hrun := fun (w : World) => run_float_arith (P := Try.prog) w .quo 24 .f64 _ _ _ hd'
  have HA := Lib.hid (fun W => abs_any _ hs64 W)
  have ht : flt (rg (hypS r x)) 4607182418800017408 = false := by rw [← oneF_eq, test_code]; exact decide_eq_false hb
  clear hd hd' hs64 hb
  generalize hypS r x = s at *
  clear fr fx hr
  clear hr64 hx64
  go_enter Try.func38, Try.ntmps38
  go_wp2_with fail
  refine (HM.out _).mono ?_
  rintro e w1 ⟨rfl, hb1⟩
  obtain ⟨c1, c2, hb2, z1, z2⟩ := pair_kept hb1
  have HB := Lib.hid hb2
  clear hb1 hb2
  go_wp2_with (first | (go_at_call 19; refine (HA.out _).mono ?_; rintro e w' ⟨rfl, rfl⟩))
  go_ret3
  exact ⟨rfl, HB.out⟩

theorem calls_eq {P : Program} {f : FuncId} {a : Array Value} {w : World} {v v' : Value} {R : World → Prop} (h : Calls P f a w fun e w' => e = .returned v ∧ R w') (hv : v = v') : Calls P f a w fun e w' => e = .returned v' ∧ R w' := by rw [← hv]; exact h
theorem hypT_no {r x : Nat} (h : (numB r && numB x) = false) : Value.tuple #[.float .f64 0, .float .f64 0, .bool false] = hypT r x := by
  unfold hypT; rw [if_neg]
  rintro ⟨h1, h2⟩
  rw [show numB r = true from decide_eq_true h1, show numB x = true from decide_eq_true h2] at h
  cases h
theorem hypT_zero {r x : Nat} (hr : rg r = 0) (hx : rg x = 0) : Value.tuple #[.float .f64 4607182418800017408, .float .f64 0, .bool true] = hypT r x := by
  have hI := INF_eq
  unfold hypT; rw [if_pos ⟨by unfold fin; omega, by unfold fin; omega⟩, if_pos ⟨hr, hx⟩]
theorem hypT_inf {r x : Nat} (fx : fin x) (hr : rg r = 0) (hx : rg x ≠ 0) : Value.tuple #[.float .f64 0, .float .f64 0, .bool false] = hypT r x := by
  have hI := INF_eq
  unfold hypT hypB; rw [if_pos ⟨by unfold fin; omega, fx⟩, if_neg (fun h => hx h.2), if_neg]
  rw [decide_eq_true_eq]; exact fun h => h.1 hr
theorem hypT_yes {r x : Nat} (fr : fin r) (fx : fin x) (hr : rg r ≠ 0) (hb : rg (hypS r x) < oneF) : Value.tuple #[.float .f64 (hypC r x), .float .f64 (hypS r x), .bool true] = hypT r x := by
  unfold hypT hypB; rw [if_pos ⟨fr, fx⟩, if_neg (fun h => hr h.1), if_pos (decide_eq_true ⟨hr, hb⟩)]
theorem hypT_far {r x : Nat} (fr : fin r) (fx : fin x) (hr : rg r ≠ 0) (hb : ¬ rg (hypS r x) < oneF) : Value.tuple #[.float .f64 0, .float .f64 0, .bool false] = hypT r x := by
  unfold hypT hypB; rw [if_pos ⟨fr, fx⟩, if_neg (fun h => hr h.1), if_neg]
  rw [decide_eq_true_eq]; exact fun h => hb h.2

theorem ghyper_any (r x : Nat) (hr64 : r < 18446744073709551616) (hx64 : x < 18446744073709551616) (w : World) :
    Calls Try.prog 38 #[.float .f64 r, .float .f64 x] w fun e w' => e = .returned (hypT r x) ∧ Below w.heap.size w w' := by
  by_cases fr : fin r
  · by_cases fx : fin x
    · by_cases hr : rg r = 0
      · by_cases hx : rg x = 0
        · exact calls_eq (ghyper_zero r x hr64 hx64 hr hx w) (hypT_zero hr hx)
        · exact calls_eq (ghyper_inf r x hr64 hx64 fx hr hx w) (hypT_inf fx hr hx)
      · by_cases hb : rg (hypS r x) < oneF
        · exact calls_eq (ghyper_yes r x hr64 hx64 fr fx hr hb w) (hypT_yes fr fx hr hb)
        · exact calls_eq (ghyper_far r x hr64 hx64 fr fx hr hb w) (hypT_far fr fx hr hb)
    · have hn : (numB r && numB x) = false := by rw [show numB x = false from decide_eq_false fx, Bool.and_false]
      exact calls_eq (ghyper_no r x hr64 hx64 hn w) (hypT_no hn)
  · have hn : (numB r && numB x) = false := by rw [show numB r = false from decide_eq_false fr, Bool.false_and]
    exact calls_eq (ghyper_no r x hr64 hx64 hn w) (hypT_no hn)
end Go.Proofs.Ytfnhcgpdlhndhaa

/- Contracts of givens: scale, size. -/
namespace Go.Proofs.Ytfnhcgpdlhndhaa
open Go.RowKit Go.Shelf Lev

attribute [local go_sem] order_lt order_gt order_eq order_ne flt_or_feq flt_or_feq' eqFloat run_store_float

set_option maxRecDepth 100000 in
set_option maxHeartbeats 1000000 in
theorem gscale_any (x y a b : Nat) (k : Int) (h1 : D.mul x (makeF false 1 k) = some a) (h2 : D.mul y (makeF false 1 k) = some b) (w : World) :
    Calls Try.prog 59 #[.agg #[.float .f64 x, .float .f64 y], .int .i64 k] w fun e w' => e = .returned (.agg #[.float .f64 a, .float .f64 b]) ∧ Below w.heap.size w w' := by
  have g1 : floatBits .mul .f64 x (makeF false 1 k) = some a := h1
  have g2 : floatBits .mul .f64 y (makeF false 1 k) = some b := h2
  have r1 := fun (w : World) => run_float_arith (P := Try.prog) w .mul 24 .f64 _ _ _ g1
  have r2 := fun (w : World) => run_float_arith (P := Try.prog) w .mul 24 .f64 _ _ _ g2
  have HP := Lib.hid (fun W => pow_any k W)
  clear h1 h2 g1 g2
  generalize makeF false 1 k = p at *
  go_enter Try.func59, Try.ntmps59
  go_wp2_with (go_at_call 40; refine (HP.out _).mono ?_; rintro e w' ⟨rfl, rfl⟩)
  refine bodyPost_ret (v := .agg #[.float .f64 a, .float .f64 b]) (by simp [results, Try.results59, go_sem]) rfl ⟨rfl, ?_⟩
  exact ((Below.refl _ _).alloc (Nat.le_refl _) _).alloc (by simp) _

set_option maxRecDepth 100000 in
set_option maxHeartbeats 1000000 in
theorem gsize_any (x y a b s h : Nat) (h1 : D.mul x x = some a) (h2 : D.mul y y = some b) (h3 : D.add a b = some s) (h4 : D.sqrt s = some h) (w : World) :
    Calls Try.prog 60 #[.agg #[.float .f64 x, .float .f64 y]] w fun e w' => e = .returned (.float .f64 h) ∧ Below w.heap.size w w' := by
  have g1 : floatBits .mul .f64 x x = some a := h1
  have g2 : floatBits .mul .f64 y y = some b := h2
  have g3 : floatBits .add .f64 a b = some s := h3
  have r1 := fun (w : World) => run_float_arith (P := Try.prog) w .mul 24 .f64 _ _ _ g1
  have r2 := fun (w : World) => run_float_arith (P := Try.prog) w .mul 24 .f64 _ _ _ g2
  have r3 := fun (w : World) => run_float_arith (P := Try.prog) w .add 24 .f64 _ _ _ g3
  have HS := Lib.hid (fun W => sqrt_any _ _ h4 W)
  clear h1 h2 h3 h4 g1 g2 g3
  go_enter Try.func60, Try.ntmps60
  go_wp2_with (go_at_call 51; refine (HS.out _).mono ?_; rintro e w' ⟨rfl, rfl⟩)
  go_ret
  exact ⟨rfl, ((Below.refl _ _).alloc (Nat.le_refl _) _).alloc (by simp) _⟩

end Go.Proofs.Ytfnhcgpdlhndhaa

/- Contracts: Of of givens. -/
namespace Lev
def ofT (f g : Nat) : Go.Value :=
  if fin f ∧ fin g then (if rg f = 0 ∧ rg g = 0 then .tuple #[.float .f64 4607182418800017408, .float .f64 0, .float .f64 0, .bool true] else if rg (rotR f g) < INF then .tuple #[.float .f64 (fdiv (rotA f g) (rotH f g)), .float .f64 (fdiv (rotB f g) (rotH f g)), .float .f64 (rotR f g), .bool true] else .tuple #[.float .f64 0, .float .f64 0, .float .f64 0, .bool false])
  else .tuple #[.float .f64 0, .float .f64 0, .float .f64 0, .bool false]
theorem rotR_le (f g : Nat) : rg (rotR f g) ≤ INF ∧ rotR f g < 18446744073709551616 := by
  unfold rotR ldS
  have h := rr_spec (mul_pw_nonneg (rotH f g) (rotK f g))
  exact ⟨by rw [rg_word _ _ h.lt63]; exact h.le, word_lt64 _ _ h.lt63⟩
theorem topB_bd {x : Nat} (h : fin x) : -2000 ≤ topB x ∧ topB x ≤ 1023 := by
  unfold topB
  split
  · have := topS_lo x; have := topS_hi h; omega
  · omega
end Lev
namespace Go.Proofs.Ytfnhcgpdlhndhaa
open Go.RowKit Go.Shelf Lev

attribute [local go_sem] order_lt order_gt order_eq order_ne flt_or_feq flt_or_feq' eqFloat run_store_float

theorem run_maxI {P : Program} (w : World) (ts : Array TypeId) (t : TypeId) (x y : Int) : (Builtin.max_ ts t #[.int .i64 x, .int .i64 y]).run P w = .ok (.int .i64 (max x y)) w := by
  rw [run_max_int2]
  congr 2
  split <;> omega
theorem run_minI {P : Program} (w : World) (ts : Array TypeId) (t : TypeId) (x y : Int) : (Builtin.min_ ts t #[.int .i64 x, .int .i64 y]).run P w = .ok (.int .i64 (min x y)) w := by
  rw [run_min_int2]
  congr 2
  split <;> omega
attribute [local go_sem high] run_maxI run_minI

set_option maxRecDepth 100000 in
set_option maxHeartbeats 1000000 in
theorem gof_no (f g : Nat) (hf64 : f < 18446744073709551616) (hg64 : g < 18446744073709551616) (hn : (numB f && numB g) = false) (w : World) :
    Calls Try.prog 29 #[.float .f64 f, .float .f64 g] w fun e w' => e = .returned (.tuple #[.float .f64 0, .float .f64 0, .float .f64 0, .bool false]) ∧ Below w.heap.size w w' := by
  have HM := Lib.hid (gmay_any f g hf64 hg64)
  rw [hn] at HM
  clear hn hf64 hg64
  go_enter Try.func29, Try.ntmps29
  go_wp2_with fail
  refine (HM.out _).mono ?_
  rintro e w1 ⟨rfl, hb1⟩
  obtain ⟨c1, c2, hb2, z1, z2⟩ := pair_kept hb1
  have HB := Lib.hid hb2
  clear hb1 hb2
  go_wp2
  refine bodyPost_ret (results_tmp4 rfl _ _ _) rfl ?_
  exact ⟨rfl, HB.out⟩

set_option maxRecDepth 100000 in
set_option maxHeartbeats 1000000 in
theorem gof_zero (f g : Nat) (hf64 : f < 18446744073709551616) (hg64 : g < 18446744073709551616) (hf : rg f = 0) (hg : rg g = 0) (w : World) :
    Calls Try.prog 29 #[.float .f64 f, .float .f64 g] w fun e w' => e = .returned (.tuple #[.float .f64 4607182418800017408, .float .f64 0, .float .f64 0, .bool true]) ∧ Below w.heap.size w w' := by
  have ff : fin f := by have := INF_eq; unfold fin; omega
  have fg : fin g := by have := INF_eq; unfold fin; omega
  have HM := Lib.hid (gmay_any f g hf64 hg64)
  rw [show numB f = true from decide_eq_true ff, show numB g = true from decide_eq_true fg] at HM
  have q1 : feq f 0 = true := by rw [feq_zero]; exact decide_eq_true hf
  have q2 : feq g 0 = true := by rw [feq_zero]; exact decide_eq_true hg
  clear hf hg ff fg hf64 hg64
  go_enter Try.func29, Try.ntmps29
  go_wp2_with fail
  refine (HM.out _).mono ?_
  rintro e w1 ⟨rfl, hb1⟩
  obtain ⟨c1, c2, hb2, z1, z2⟩ := pair_kept hb1
  have HB := Lib.hid hb2
  clear hb1 hb2
  go_wp2
  refine bodyPost_ret (results_tmp4 rfl _ _ _) rfl ?_
  exact ⟨rfl, HB.out⟩

def OfEnd (x y r : Nat) (b : Bool) (w : World) (e : Ending) (w' : World) : Prop :=
  e = .returned (if b then .tuple #[.float .f64 x, .float .f64 y, .float .f64 r, .bool true] else .tuple #[.float .f64 0, .float .f64 0, .float .f64 0, .bool false]) ∧ Below w.heap.size w w'

set_option maxRecDepth 100000 in
set_option maxHeartbeats 2000000 in
theorem gof_yes1 (f g : Nat) (hf64 : f < 18446744073709551616) (hg64 : g < 18446744073709551616) (ff : fin f) (fg : fin g) (h0 : ¬ (rg f = 0 ∧ rg g = 0)) (q1 : feq f 0 = false) (w : World) :
    Calls Try.prog 29 #[.float .f64 f, .float .f64 g] w (OfEnd (fdiv (rotA f g) (rotH f g)) (fdiv (rotB f g) (rotH f g)) (rotR f g) (decide (rg (rotR f g) < INF)) w) := by
  have HM := Lib.hid (gmay_any f g hf64 hg64)
  rw [show numB f = true from decide_eq_true ff, show numB g = true from decide_eq_true fg] at HM
  obtain ⟨_, _, m1, m2, m3, m4, m5, m6, m7, m8, m9⟩ := rot_facts ff fg h0
  obtain ⟨hr1, hr2⟩ := rotR_le f g
  obtain ⟨k1, k2⟩ := rotK_bd f g
  obtain ⟨t1, t2⟩ := topB_bd ff
  obtain ⟨t3, t4⟩ := topB_bd fg
  have HK := Lib.hid (show rotK f g = max (-1000) (min 1000 (max (topB f) (topB g))) from rfl)
  have HT1 := Lib.hid (fun W => top_any f hf64 W)
  have HT2 := Lib.hid (fun W => top_any g hg64 W)
  have HSC := Lib.hid (fun W => gscale_any f g _ _ _ m1 m2 W)
  have HSZ := Lib.hid (fun W => gsize_any _ _ _ _ _ _ m3 m4 m5 m6 W)
  have HP := Lib.hid (fun W => pow_any (rotK f g) W)
  have g7 : floatBits .mul .f64 (rotH f g) (makeF false 1 (rotK f g)) = some (rotR f g) := m7
  have g8 : floatBits .quo .f64 (rotA f g) (rotH f g) = some (fdiv (rotA f g) (rotH f g)) := m8
  have g9 : floatBits .quo .f64 (rotB f g) (rotH f g) = some (fdiv (rotB f g) (rotH f g)) := m9
  have r7 := fun (w : World) => run_float_arith (P := Try.prog) w .mul 24 .f64 _ _ _ g7
  have r8 := fun (w : World) => run_float_arith (P := Try.prog) w .quo 24 .f64 _ _ _ g8
  have r9 := fun (w : World) => run_float_arith (P := Try.prog) w .quo 24 .f64 _ _ _ g9
  have HI := Lib.hid (fun W => isInf_any (rotR f g) hr2 W)
  have hdI : decide (rg (rotR f g) = INF) = !decide (rg (rotR f g) < INF) := by rw [← decide_not, decide_eq_decide]; omega
  rw [hdI] at HI
  have HB1 := Lib.hid (And.intro k1 k2); have HB2 := Lib.hid (And.intro t1 t2); have HB3 := Lib.hid (And.intro t3 t4)
  clear k1 k2 t1 t2 t3 t4
  clear m1 m2 m3 m4 m5 m6 m7 m8 m9 g7 g8 g9 hr1 hr2 ff fg h0 hdI hf64 hg64
  generalize decide (rg (rotR f g) < INF) = bR at *
  generalize fdiv (rotA f g) (rotH f g) = c at *
  generalize fdiv (rotB f g) (rotH f g) = s at *
  generalize rotA f g = A at *
  generalize rotB f g = B at *
  generalize rotH f g = H at *
  generalize rotR f g = R at *
  generalize rotK f g = K at *
  generalize makeF false 1 K = pk at *
  go_enter Try.func29, Try.ntmps29
  go_wp2_with fail
  refine (HM.out _).mono ?_
  rintro e w1 ⟨rfl, hb1⟩
  have bk1 := Lib.hid ((Bk.new w 78 #[.float .f64 f, .float .f64 g]).below hb1 (by simp))
  obtain ⟨c1, c2, hb2, z1, z2⟩ := pair_kept hb1
  have HB := Lib.hid hb2
  clear hb1 hb2
  go_wp2_with (first
    | (go_at_call 49; (((with_reducible refine (HT1.out _).mono ?_)); rintro e w' ⟨rfl, rfl⟩))
    | (go_at_call 49; (((with_reducible refine (HT2.out _).mono ?_)); rintro e w' ⟨rfl, rfl⟩)))
  rw [← HK.out]
  refine (HSC.out _).mono ?_
  rintro e w2 ⟨rfl, hb2⟩
  have b0 := (bk1.out).below hb2 bk1.out.lt
  have BB := Lib.hid (Below.chain HB.out hb2)
  have d1 := b0.cell 0; have d2 := b0.cell 1
  have y1 := b0.frozen 0; have y2 := b0.frozen 1
  have hset := Lib.hid ((b0.set 0 (.float .f64 A)).set 1 (.float .f64 B))
  have hbs : Below w.heap.size w ((w2.setCell ⟨w.heap.size, 0, none⟩ (.float .f64 A)).setCell ⟨w.heap.size, 1, none⟩ (.float .f64 B)) := (BB.out.setCell (Nat.le_refl _) _).setCell (Nat.le_refl _) _
  have HBS := Lib.hid hbs
  clear hb2 b0 hbs c1 c2 z1 z2
  go_wp2_with fail
  refine (HSZ.out _).mono ?_
  rintro e w3 ⟨rfl, hb3⟩
  have b3 := (hset.out).below hb3 hset.out.lt
  have d3 : w3.cell? ⟨w.heap.size, 0, none⟩ = some (.float .f64 A) := b3.cell 0
  have d4 : w3.cell? ⟨w.heap.size, 1, none⟩ = some (.float .f64 B) := b3.cell 1
  have HB3 := Lib.hid (Below.chain HBS.out hb3)
  clear hb3 b3 d1 d2 y1 y2
  cases bR
  · go_wp2_with (first
      | (go_at_call 40; refine (HP.out _).mono ?_; rintro e w' ⟨rfl, rfl⟩)
      | (go_at_call 61; refine (HI.out _).mono ?_; rintro e w' ⟨rfl, rfl⟩))
    refine bodyPost_ret (results_tmp4 rfl _ _ _) rfl ?_
    exact ⟨rfl, HB3.out⟩
  · go_wp2_with (first
      | (go_at_call 40; refine (HP.out _).mono ?_; rintro e w' ⟨rfl, rfl⟩)
      | (go_at_call 61; refine (HI.out _).mono ?_; rintro e w' ⟨rfl, rfl⟩))
    go_quiet (fail)
    go_wp2
    refine bodyPost_ret (results_tmp4 rfl _ _ _) rfl ?_
    exact ⟨rfl, HB3.out.drewN _⟩

set_option maxRecDepth 100000 in
set_option maxHeartbeats 2000000 in
theorem gof_yes2 (f g : Nat) (hf64 : f < 18446744073709551616) (hg64 : g < 18446744073709551616) (ff : fin f) (fg : fin g) (h0 : ¬ (rg f = 0 ∧ rg g = 0)) (q1 : feq f 0 = true) (q2 : feq g 0 = false) (w : World) :
    Calls Try.prog 29 #[.float .f64 f, .float .f64 g] w (OfEnd (fdiv (rotA f g) (rotH f g)) (fdiv (rotB f g) (rotH f g)) (rotR f g) (decide (rg (rotR f g) < INF)) w) := by
  have HM := Lib.hid (gmay_any f g hf64 hg64)
  rw [show numB f = true from decide_eq_true ff, show numB g = true from decide_eq_true fg] at HM
  obtain ⟨_, _, m1, m2, m3, m4, m5, m6, m7, m8, m9⟩ := rot_facts ff fg h0
  obtain ⟨hr1, hr2⟩ := rotR_le f g
  obtain ⟨k1, k2⟩ := rotK_bd f g
  obtain ⟨t1, t2⟩ := topB_bd ff
  obtain ⟨t3, t4⟩ := topB_bd fg
  have HK := Lib.hid (show rotK f g = max (-1000) (min 1000 (max (topB f) (topB g))) from rfl)
  have HT1 := Lib.hid (fun W => top_any f hf64 W)
  have HT2 := Lib.hid (fun W => top_any g hg64 W)
  have HSC := Lib.hid (fun W => gscale_any f g _ _ _ m1 m2 W)
  have HSZ := Lib.hid (fun W => gsize_any _ _ _ _ _ _ m3 m4 m5 m6 W)
  have HP := Lib.hid (fun W => pow_any (rotK f g) W)
  have g7 : floatBits .mul .f64 (rotH f g) (makeF false 1 (rotK f g)) = some (rotR f g) := m7
  have g8 : floatBits .quo .f64 (rotA f g) (rotH f g) = some (fdiv (rotA f g) (rotH f g)) := m8
  have g9 : floatBits .quo .f64 (rotB f g) (rotH f g) = some (fdiv (rotB f g) (rotH f g)) := m9
  have r7 := fun (w : World) => run_float_arith (P := Try.prog) w .mul 24 .f64 _ _ _ g7
  have r8 := fun (w : World) => run_float_arith (P := Try.prog) w .quo 24 .f64 _ _ _ g8
  have r9 := fun (w : World) => run_float_arith (P := Try.prog) w .quo 24 .f64 _ _ _ g9
  have HI := Lib.hid (fun W => isInf_any (rotR f g) hr2 W)
  have hdI : decide (rg (rotR f g) = INF) = !decide (rg (rotR f g) < INF) := by rw [← decide_not, decide_eq_decide]; omega
  rw [hdI] at HI
  have HB1 := Lib.hid (And.intro k1 k2); have HB2 := Lib.hid (And.intro t1 t2); have HB3 := Lib.hid (And.intro t3 t4)
  clear k1 k2 t1 t2 t3 t4
  clear m1 m2 m3 m4 m5 m6 m7 m8 m9 g7 g8 g9 hr1 hr2 ff fg h0 hdI hf64 hg64
  generalize decide (rg (rotR f g) < INF) = bR at *
  generalize fdiv (rotA f g) (rotH f g) = c at *
  generalize fdiv (rotB f g) (rotH f g) = s at *
  generalize rotA f g = A at *
  generalize rotB f g = B at *
  generalize rotH f g = H at *
  generalize rotR f g = R at *
  generalize rotK f g = K at *
  generalize makeF false 1 K = pk at *
  go_enter Try.func29, Try.ntmps29
  go_wp2_with fail
  refine (HM.out _).mono ?_
  rintro e w1 ⟨rfl, hb1⟩
  have bk1 := Lib.hid ((Bk.new w 78 #[.float .f64 f, .float .f64 g]).below hb1 (by simp))
  obtain ⟨c1, c2, hb2, z1, z2⟩ := pair_kept hb1
  have HB := Lib.hid hb2
  clear hb1 hb2
  go_wp2_with (first
    | (go_at_call 49; (((with_reducible refine (HT1.out _).mono ?_)); rintro e w' ⟨rfl, rfl⟩))
    | (go_at_call 49; (((with_reducible refine (HT2.out _).mono ?_)); rintro e w' ⟨rfl, rfl⟩)))
  rw [← HK.out]
  refine (HSC.out _).mono ?_
  rintro e w2 ⟨rfl, hb2⟩
  have b0 := (bk1.out).below hb2 bk1.out.lt
  have BB := Lib.hid (Below.chain HB.out hb2)
  have d1 := b0.cell 0; have d2 := b0.cell 1
  have y1 := b0.frozen 0; have y2 := b0.frozen 1
  have hset := Lib.hid ((b0.set 0 (.float .f64 A)).set 1 (.float .f64 B))
  have hbs : Below w.heap.size w ((w2.setCell ⟨w.heap.size, 0, none⟩ (.float .f64 A)).setCell ⟨w.heap.size, 1, none⟩ (.float .f64 B)) := (BB.out.setCell (Nat.le_refl _) _).setCell (Nat.le_refl _) _
  have HBS := Lib.hid hbs
  clear hb2 b0 hbs c1 c2 z1 z2
  go_wp2_with fail
  refine (HSZ.out _).mono ?_
  rintro e w3 ⟨rfl, hb3⟩
  have b3 := (hset.out).below hb3 hset.out.lt
  have d3 : w3.cell? ⟨w.heap.size, 0, none⟩ = some (.float .f64 A) := b3.cell 0
  have d4 : w3.cell? ⟨w.heap.size, 1, none⟩ = some (.float .f64 B) := b3.cell 1
  have HB3 := Lib.hid (Below.chain HBS.out hb3)
  clear hb3 b3 d1 d2 y1 y2
  cases bR
  · go_wp2_with (first
      | (go_at_call 40; refine (HP.out _).mono ?_; rintro e w' ⟨rfl, rfl⟩)
      | (go_at_call 61; refine (HI.out _).mono ?_; rintro e w' ⟨rfl, rfl⟩))
    refine bodyPost_ret (results_tmp4 rfl _ _ _) rfl ?_
    exact ⟨rfl, HB3.out⟩
  · go_wp2_with (first
      | (go_at_call 40; refine (HP.out _).mono ?_; rintro e w' ⟨rfl, rfl⟩)
      | (go_at_call 61; refine (HI.out _).mono ?_; rintro e w' ⟨rfl, rfl⟩))
    go_quiet (fail)
    go_wp2
    refine bodyPost_ret (results_tmp4 rfl _ _ _) rfl ?_
    exact ⟨rfl, HB3.out.drewN _⟩

theorem ofT_no {f g : Nat} (h : (numB f && numB g) = false) : Value.tuple #[.float .f64 0, .float .f64 0, .float .f64 0, .bool false] = ofT f g := by
  unfold ofT; rw [if_neg]
  rintro ⟨h1, h2⟩
  rw [show numB f = true from decide_eq_true h1, show numB g = true from decide_eq_true h2] at h
  cases h
theorem ofT_zero {f g : Nat} (hf : rg f = 0) (hg : rg g = 0) : Value.tuple #[.float .f64 4607182418800017408, .float .f64 0, .float .f64 0, .bool true] = ofT f g := by
  have hI := INF_eq
  unfold ofT; rw [if_pos ⟨by unfold fin; omega, by unfold fin; omega⟩, if_pos ⟨hf, hg⟩]
theorem ofT_yes {f g : Nat} (ff : fin f) (fg : fin g) (h0 : ¬ (rg f = 0 ∧ rg g = 0)) :
    (if decide (rg (rotR f g) < INF) then Value.tuple #[.float .f64 (fdiv (rotA f g) (rotH f g)), .float .f64 (fdiv (rotB f g) (rotH f g)), .float .f64 (rotR f g), .bool true] else .tuple #[.float .f64 0, .float .f64 0, .float .f64 0, .bool false]) = ofT f g := by
  unfold ofT
  rw [if_pos (c := fin f ∧ fin g) ⟨ff, fg⟩, if_neg (c := rg f = 0 ∧ rg g = 0) h0]
  simp only [decide_eq_true_eq]

theorem gof_any (f g : Nat) (hf64 : f < 18446744073709551616) (hg64 : g < 18446744073709551616) (w : World) :
    Calls Try.prog 29 #[.float .f64 f, .float .f64 g] w fun e w' => e = .returned (ofT f g) ∧ Below w.heap.size w w' := by
  by_cases ff : fin f
  · by_cases fg : fin g
    · by_cases h0 : rg f = 0 ∧ rg g = 0
      · exact calls_eq (gof_zero f g hf64 hg64 h0.1 h0.2 w) (ofT_zero h0.1 h0.2)
      · by_cases h1 : rg f = 0
        · exact calls_eq (gof_yes2 f g hf64 hg64 ff fg h0 (by rw [feq_zero]; exact decide_eq_true h1) (by rw [feq_zero]; exact decide_eq_false (fun h => h0 ⟨h1, h⟩)) w) (ofT_yes ff fg h0)
        · exact calls_eq (gof_yes1 f g hf64 hg64 ff fg h0 (by rw [feq_zero]; exact decide_eq_false h1) w) (ofT_yes ff fg h0)
    · have hn : (numB f && numB g) = false := by rw [show numB g = false from decide_eq_false fg, Bool.and_false]
      exact calls_eq (gof_no f g hf64 hg64 hn w) (ofT_no hn)
  · have hn : (numB f && numB g) = false := by rw [show numB f = false from decide_eq_false ff, Bool.false_and]
    exact calls_eq (gof_no f g hf64 hg64 hn w) (ofT_no hn)

end Go.Proofs.Ytfnhcgpdlhndhaa

/- Contracts: Of of the document. -/
set_option linter.unusedVariables false
namespace Go.Proofs.Ytfnhcgpdlhndhaa
open Go.RowKit Go.Shelf Lev

attribute [local go_sem] order_lt order_gt order_eq order_ne flt_or_feq flt_or_feq'

attribute [local go_sem high] run_maxI run_minI

def OfEnd2 (x y r : Nat) (b : Bool) (w : World) (e : Ending) (w' : World) : Prop :=
  e = .returned (if b then .tuple #[.float .f64 x, .float .f64 y, .float .f64 r, .bool true] else .tuple #[.float .f64 0, .float .f64 0, .float .f64 0, .bool false]) ∧ w = w'

end Go.Proofs.Ytfnhcgpdlhndhaa

/- live of layer 6. -/
namespace Lev
theorem cn_val {u x : Nat} (h : cn u = x) (hx : x ≠ nanc) : u = x := by
  by_cases hu : INF < rg u
  · rw [cn_nan hu] at h; exact absurd h.symm hx
  · rwa [cn_num hu] at h
theorem g1 : fdiv (rotA 4613937818241073152 4616189618054758400) (rotH 4613937818241073152 4616189618054758400) = 4603579539098121011 := by decide +kernel
theorem g2 : fdiv (rotB 4613937818241073152 4616189618054758400) (rotH 4613937818241073152 4616189618054758400) = 4605380978949069210 := by decide +kernel
theorem g3 : rotR 4613937818241073152 4616189618054758400 = 4617315517961601024 := by decide +kernel
theorem ofT_34 : ofT 4613937818241073152 4616189618054758400 = .tuple #[.float .f64 4603579539098121011, .float .f64 4605380978949069210, .float .f64 4617315517961601024, .bool true] := by
  unfold ofT
  rw [if_pos (by decide), if_neg (by decide), g1, g2, g3, if_pos (by decide)]
theorem ofT_00 : ofT 0 0 = .tuple #[.float .f64 4607182418800017408, .float .f64 0, .float .f64 0, .bool true] := by
  unfold ofT
  rw [if_pos (by decide), if_pos (by decide)]
theorem ofT_inf : ofT 9218868437227405312 4607182418800017408 = .tuple #[.float .f64 0, .float .f64 0, .float .f64 0, .bool false] := by
  unfold ofT
  rw [if_neg (by decide)]
theorem h1 : hypS 4617315517961601024 4613937818241073152 = 4603579539098121011 := by decide +kernel
theorem h2 : hypC 4617315517961601024 4613937818241073152 = 4605380978949069210 := by decide +kernel
theorem hypT_53 : hypT 4617315517961601024 4613937818241073152 = .tuple #[.float .f64 4605380978949069210, .float .f64 4603579539098121011, .bool true] := by
  unfold hypT hypB
  rw [if_pos (by decide), if_neg (by decide), h1, h2, if_pos (by decide)]
theorem h3 : hypS 4613937818241073152 4613937818241073152 = 4607182418800017408 := by decide +kernel
theorem hypT_33 : hypT 4613937818241073152 4613937818241073152 = .tuple #[.float .f64 0, .float .f64 0, .bool false] := by
  unfold hypT hypB
  rw [if_pos (by decide), if_neg (by decide), h3, if_neg (by decide)]
theorem hypT_01 : hypT 0 4607182418800017408 = .tuple #[.float .f64 0, .float .f64 0, .bool false] := by
  unfold hypT hypB
  rw [if_pos (by decide), if_neg (by decide), if_neg (by rw [decide_eq_true_eq]; exact fun h => h.1 (by decide))]
theorem t1 : turnU 0 4607182418800017408 4617315517961601024 4619567317775286272 = 4619567317775286272 := by decide +kernel
theorem t2 : turnV 0 4607182418800017408 4617315517961601024 4619567317775286272 = 13840687554816376832 := by decide +kernel
theorem d1 : downP 4607182418800017408 0 4617315517961601024 4619567317775286272 = 4617315517961601024 := by decide +kernel
theorem d2 : downV 4607182418800017408 0 4617315517961601024 4619567317775286272 = 4619567317775286272 := by decide +kernel
theorem lc1 : feq 4603579539098121011 4603579539098121011 = true := by decide
theorem lc2 : feq 4605380978949069210 4605380978949069210 = true := by decide
theorem lc3 : feq 4617315517961601024 4617315517961601024 = true := by decide
theorem lc4 : feq 4607182418800017408 4607182418800017408 = true := by decide
theorem lc5 : feq 0 0 = true := by decide
theorem lc6 : feq 4619567317775286272 4619567317775286272 = true := by decide
theorem lc7 : feq 13840687554816376832 13840687554816376832 = true := by decide
theorem lc8 : flt 4605290906956521800 4605380978949069210 = true := by decide
theorem lc9 : flt 4605380978949069210 4605471050941616620 = true := by decide
end Lev
namespace Go.Proofs.Ytfnhcgpdlhndhaa
open Go.RowKit Go.Shelf Lev

attribute [local go_sem] order_lt order_gt order_eq order_ne flt_or_feq flt_or_feq' lc1 lc2 lc3 lc4 lc5 lc6 lc7 lc8 lc9 run_frombits

set_option maxHeartbeats 400000 in
theorem minf_any (w : World) : Calls Try.prog 62 #[.int .i64 1] w fun e w' => e = .returned (.float .f64 9218868437227405312) ∧ w = w' := by
  go_enter Try.func62, Try.ntmps62
  go_wp2
  go_ret
  exact ⟨rfl, rfl⟩

theorem lof (f g : Nat) (hf : f < 18446744073709551616) (hg : g < 18446744073709551616) (v : Value) (hv : ofT f g = v) (w : World) :
    Calls Try.prog 29 #[.float .f64 f, .float .f64 g] w fun e w' => e = .returned v ∧ Below w.heap.size w w' := by rw [← hv]; exact gof_any f g hf hg w
theorem lhy (f g : Nat) (hf : f < 18446744073709551616) (hg : g < 18446744073709551616) (v : Value) (hv : hypT f g = v) (w : World) :
    Calls Try.prog 38 #[.float .f64 f, .float .f64 g] w fun e w' => e = .returned v ∧ Below w.heap.size w w' := by rw [← hv]; exact ghyper_any f g hf hg w
theorem lturn (c s x y u v : Nat) (h1 : turnU c s x y = u) (h2 : turnV c s x y = v) (hu : u ≠ nanc) (hv : v ≠ nanc) (w : World) :
    Calls Try.prog 35 #[.float .f64 c, .float .f64 s, .float .f64 x, .float .f64 y] w fun e w' => e = .returned (.tuple #[.float .f64 u, .float .f64 v]) ∧ Below w.heap.size w w' := by
  refine (gturn_any c s x y w).mono ?_
  rintro e w' ⟨⟨a, b, rfl, e1, e2, _, _⟩, hb⟩
  rw [cn_val (e1.trans h1) hu, cn_val (e2.trans h2) hv]
  exact ⟨rfl, hb⟩
theorem ldown (c s x y u v : Nat) (h1 : downP c s x y = u) (h2 : downV c s x y = v) (hu : u ≠ nanc) (hv : v ≠ nanc) (w : World) :
    Calls Try.prog 39 #[.float .f64 c, .float .f64 s, .float .f64 x, .float .f64 y] w fun e w' => e = .returned (.tuple #[.float .f64 u, .float .f64 v]) ∧ Below w.heap.size w w' := by
  refine (gdown_any c s x y w).mono ?_
  rintro e w' ⟨⟨a, b, rfl, e1, e2, _, _⟩, n, rfl⟩
  rw [cn_val (e1.trans h1) hu, cn_val (e2.trans h2) hv]
  exact ⟨rfl, (Below.refl _ _).drewN _⟩

set_option maxRecDepth 100000 in
set_option maxHeartbeats 2000000 in
theorem live06 (w : World) : Calls Try.prog 30 #[] w fun e w' => e = .returned (.bool true) ∧ Below w.heap.size w w' := by
  go_enter Try.func30, Try.ntmps30
  go_wp2_with fail
  refine (lof _ _ (by decide) (by decide) _ ofT_34 w).mono ?_
  rintro e w1 ⟨rfl, hb1⟩
  have B1 := Lib.hid hb1
  clear hb1
  go_wp2_with fail
  refine (lof _ _ (by decide) (by decide) _ ofT_00 w1).mono ?_
  rintro e w2 ⟨rfl, hb2⟩
  have B2 := Lib.hid (Below.chain B1.out hb2)
  clear hb2 B1
  go_wp2_with fail
  refine (minf_any w2).mono ?_
  rintro e w' ⟨rfl, rfl⟩
  go_wp2_with fail
  refine (lof _ _ (by decide) (by decide) _ ofT_inf w2).mono ?_
  rintro e w3 ⟨rfl, hb3⟩
  have B3 := Lib.hid (Below.chain B2.out hb3)
  clear hb3 B2
  go_wp2_with fail
  refine (lturn _ _ _ _ _ _ t1 t2 (by decide) (by decide) w3).mono ?_
  rintro e w4 ⟨rfl, hb4⟩
  have B4 := Lib.hid (Below.chain B3.out hb4)
  clear hb4 B3
  go_wp2_with fail
  refine (lhy _ _ (by decide) (by decide) _ hypT_53 w4).mono ?_
  rintro e w5 ⟨rfl, hb5⟩
  have B5 := Lib.hid (Below.chain B4.out hb5)
  clear hb5 B4
  go_wp2_with fail
  refine (lhy _ _ (by decide) (by decide) _ hypT_33 w5).mono ?_
  rintro e w6 ⟨rfl, hb6⟩
  have B6 := Lib.hid (Below.chain B5.out hb6)
  clear hb6 B5
  go_wp2_with fail
  refine (lhy _ _ (by decide) (by decide) _ hypT_01 w6).mono ?_
  rintro e w7 ⟨rfl, hb7⟩
  have B7 := Lib.hid (Below.chain B6.out hb7)
  clear hb7 B6
  go_wp2_with fail
  refine (ldown _ _ _ _ _ _ d1 d2 (by decide) (by decide) w7).mono ?_
  rintro e w8 ⟨rfl, hb8⟩
  have B8 := Lib.hid (Below.chain B7.out hb8)
  clear hb8 B7
  go_wp2
  go_ret
  exact ⟨rfl, B8.out⟩

end Go.Proofs.Ytfnhcgpdlhndhaa
