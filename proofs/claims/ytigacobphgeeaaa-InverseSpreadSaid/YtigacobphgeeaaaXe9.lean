/- Contract of package inverse: invert. -/
import Derived.Test.YtigacobphgeeaaaXb9
import Derived.Test.YtigacobphgeeaaaXd9
set_option linter.unusedVariables false
namespace Lev
def gS (f : Fct) : Nat → Nat → Nat := fun i j => getS f (i : Int) (j : Int)
def singB (f : Fct) (n : Nat) : Bool := (List.range n).any (fun i => decide (rg (gS f i i) = 0))
def wildB (g : Nat → Nat → Nat) (n : Nat) : Bool := (List.range n).any (fun i => (List.range n).any (fun j => decide (i ≤ j) && wildS (wS g i j)))
/-- The errno of the inverse. -/
def invE (f : Fct) : Int := if f.ok = false then 1 else if singB f f.C.toNat = true then 7 else if wildB (gS f) f.C.toNat = true then 2 else 0
theorem singB_at {f : Fct} {n q : Nat} (hq : q < n) (h : rg (gS f q q) = 0) : singB f n = true := by
  unfold singB
  rw [List.any_eq_true]
  exact ⟨q, List.mem_range.2 hq, decide_eq_true h⟩
theorem singB_no {f : Fct} {n : Nat} (h : ∀ i, i < n → rg (gS f i i) ≠ 0) : singB f n = false := by
  unfold singB
  rw [List.any_eq_false]
  intro i hi
  rw [List.mem_range] at hi
  simpa using h i hi
theorem wildB_at {g : Nat → Nat → Nat} {n i j : Nat} (hij : i ≤ j) (hj : j < n) (h : wildS (wS g i j) = true) : wildB g n = true := by
  unfold wildB
  rw [List.any_eq_true]
  refine ⟨i, List.mem_range.2 (by omega), ?_⟩
  rw [List.any_eq_true]
  exact ⟨j, List.mem_range.2 hj, by rw [decide_eq_true hij, h]; rfl⟩
theorem wildB_no {g : Nat → Nat → Nat} {n : Nat} (h : ∀ i j, i ≤ j → j < n → wildS (wS g i j) = false) : wildB g n = false := by
  unfold wildB
  rw [List.any_eq_false]
  intro i hi
  rw [List.mem_range] at hi
  rw [Bool.not_eq_true, List.any_eq_false]
  intro j hj
  rw [List.mem_range] at hj
  by_cases hij : i ≤ j
  · rw [h i j hij hj, Bool.and_false]; decide
  · rw [decide_eq_false hij, Bool.false_and]; decide
def rowL (M : Nat → Nat → Nat) (i n : Nat) : List Nat := (List.range n).map (M i)
theorem rowL_len (M : Nat → Nat → Nat) (i n : Nat) : (rowL M i n).length = n := by unfold rowL; rw [List.length_map, List.length_range]
theorem rowL_get (M : Nat → Nat → Nat) {i n j : Nat} (h : j < n) : (rowL M i n)[j]?.getD 0 = M i j := by
  unfold rowL
  rw [List.getElem?_map, List.getElem?_range h]; rfl
theorem rowL_any {M : Nat → Nat → Nat} {i n : Nat} (h : (rowL M i n).any wildS = true) : ∃ j, j < n ∧ wildS (M i j) = true := by
  unfold rowL at h
  rw [List.any_map, List.any_eq_true] at h
  obtain ⟨j, hj, h2⟩ := h
  exact ⟨j, List.mem_range.1 hj, h2⟩
theorem rowL_none {M : Nat → Nat → Nat} {i n : Nat} (h : (rowL M i n).any wildS = false) : ∀ j, j < n → wildS (M i j) = false := fun j hj => by
  unfold rowL at h
  rw [List.any_map, List.any_eq_false] at h
  have := h j (List.mem_range.2 hj)
  simpa using this
theorem wild_zero : wildS 0 = false := by decide +kernel
end Lev
namespace Go.Proofs.Ytigacobphgeeaaa
open Go.RowKit Go.Shelf Lev

theorem RMat.row_arg {w : World} {B n : Nat} {b o k : Nat → Nat} {M : Nat → Nat → Nat} (h : RMat w B n b o k M) {i : Nat} (hi : i < n) : SlArg w (some ⟨b i, o i, none⟩) (rowL M i n) (k i) := by
  refine ⟨⟨fun x hx => ?_, fun _ => ⟨b i, o i, rfl, h.rlt i hi, fun j hj => ?_⟩⟩, by rw [rowL_len]; exact (h.cap i hi).1, (h.cap i hi).2⟩
  · unfold rowL at hx
    rw [List.mem_map] at hx
    obtain ⟨j, _, rfl⟩ := hx
    exact h.l64 i j
  · rw [rowL_len] at hj
    rw [rowL_get M hj]; exact h.row i j hi hj
theorem step_make {ops : Array Oper} {ob : Oper} {a : Act} {K : Act → World → Prop} {Q : Exit → Act → World → Prop} {E : Prop} (w : World) (hgd : ob.guard = none) (t : TypeId) (x : Operand) (ho : ob.op = .makeSlice t x x) (n : Nat) (hx : a.eval x = .int .i64 (n : Int)) (v : Value) (w' : World)
    (hmk : (Instr.makeSlice t (.int .i64 (n : Int)) (.int .i64 (n : Int))).run Try.prog w = .ok v w') (h : K (a.put ob.dst v) w') : if Region.wanted ob (yielded ops a.tmps) = true then Oper.wp Try.prog ob a w K Q else E := by
  have hw : Region.wanted ob (yielded ops a.tmps) = true := by simp [Region.wanted, hgd]
  rw [if_pos hw]
  unfold Oper.wp execOp
  simp only [ho, Sem.run_bind, Sem.run_pure, Result.andThen_ok, hx, hmk]
  exact h
/-- The rows that lie one behind the other, still zero. -/
def Row0 (w : World) (H n : Nat) (cells : Array Value) (q : Nat) : Prop := ∀ i, i < q → cells[i]? = some (.slice (some ⟨H + i, 0, none⟩) n n) ∧ Bk w (H + i) 29 (madeCells #[.float .f64 0] n)
theorem Row0.wmat {w : World} {H n Bw : Nat} {t : TypeId} {cells : Array Value} (h : Row0 w H n cells n) (hB : Bk w Bw t cells) (hlt : Bw < H) (hs : w.heap.size = H + n) (hi' : n < 7) : WMat w Bw n (fun i => H + i) (fun _ => n) (fun _ _ => 0) :=
  ⟨⟨fun i hi => (hB.cell i).trans (h i hi).1, fun i j hi hj => by
    rw [Nat.zero_add]
    show w.cell? ⟨H + i, j, none⟩ = _
    rw [(h i hi).2.cell j, cells_zero n _ j hj], hB.lt, fun i hi => by show H + i < _; omega, fun _ _ => by decide, fun i hi => ⟨Nat.le_refl _, by
      exact Nat.le_trans (Nat.le_of_lt hi') (by decide)⟩⟩, fun i hi => ⟨_, _, (h i hi).2⟩, fun i i' _ _ e => by have e : H + i = H + i' := e; omega, fun i hi => by show H + i ≠ Bw; omega⟩
/-- What invert hands back. -/
structure InvR (w : World) (f : Fct) (n Bu Bw : Nat) (lo : Nat) : Prop where
  u : ∃ bu ou ku, RMat w Bu n bu ou ku (gS f) ∧ ∀ i, i < n → lo ≤ bu i
  w : ∃ bw kw M, RMat w Bw n bw (fun _ => 0) kw M ∧ (∀ i, i < n → lo ≤ bw i) ∧ (∀ i j, i ≤ j → j < n → cn (M i j) = wS (gS f) i j) ∧ (∀ i j, i < n → j < i → M i j = 0)
theorem InvR.below {w w' : World} {f : Fct} {n Bu Bw lo : Nat} (h : InvR w f n Bu Bw lo) (hb : Below w.heap.size w w') : InvR w' f n Bu Bw lo := by
  obtain ⟨⟨bu, ou, ku, h1, h2⟩, ⟨bw, kw, M, h3, h4, h5, h6⟩⟩ := h
  exact ⟨⟨bu, ou, ku, h1.below hb, h2⟩, ⟨bw, kw, M, h3.below hb, h4, h5, h6⟩⟩

def InvPost (f : Fct) (n : Nat) (E : Int) (lo : Nat) (e : Ending) (w' : World) : Prop := (E ≠ 0 ∧ e = .returned (.tuple #[.slice none 0 0, .slice none 0 0, .int .i64 E])) ∨ (E = 0 ∧ ∃ Bu Bw, e = .returned (.tuple #[.slice (some ⟨Bu, 0, none⟩) n n, .slice (some ⟨Bw, 0, none⟩) n n, .int .i64 0]) ∧ InvR w' f n Bu Bw lo)

attribute [local go_sem] run_store_float order_lt order_gt order_eq order_ne

set_option maxRecDepth 100000 in
set_option maxHeartbeats 1000000 in
theorem invert_no (f : Fct) (A : Option Addr) (c : Nat) (w : World) (hx : SlArg w A f.xs c) (hok : f.ok = false) :
    Calls Try.prog 33 #[facV f.C A f.xs.length c f.R f.T] w fun e w' => e = .returned (.tuple #[.slice none 0 0, .slice none 0 0, .int .i64 1]) ∧ Below w.heap.size w w' := by
  have hck := fun W h => check_any f.C A f.xs c f.R f.T W h
  rw [show checkS f.C f.xs f.R f.T = false from hok] at hck
  have K0 := Lib.hid (((Keep.start w).more hx).alloc #[.int .i64 f.C, .slice A f.xs.length c, .int .i64 f.R, .int .i64 f.T] 24)
  unfold facV at hck ⊢
  have HCK := Lib.hid hck
  clear hx hck
  go_enter Try.func33, Try.ntmps33
  go_wp2_with fail
  refine (HCK.out _ (K0.out.arg (.head _))).mono ?_
  rintro e w1 ⟨rfl, hb⟩
  have K1 := Lib.hid (K0.out.call hb)
  clear hb
  go_wp2
  refine bodyPost_ret (v := .tuple #[.slice none 0 0, .slice none 0 0, .int .i64 1]) (by simp [results, Try.results33, go_sem]) rfl ?_
  exact ⟨rfl, K1.out.below⟩

set_option maxRecDepth 100000 in
set_option maxHeartbeats 8000000 in
theorem invert_in (f : Fct) (A : Option Addr) (c : Nat) (w : World) (hx : SlArg w A f.xs c) (hok : f.ok = true) (n : Nat) (hn : f.C = (n : Int)) :
    Calls Try.prog 33 #[facV f.C A f.xs.length c f.R f.T] w fun e w' => InvPost f n (invE f) w.heap.size e w' ∧ Below w.heap.size w w' := by
  have hn6 : 1 ≤ n ∧ n ≤ 6 := by have := ok_len hok; omega
  have hck := fun W h => check_any f.C A f.xs c f.R f.T W h
  rw [show checkS f.C f.xs f.R f.T = true from hok] at hck
  have hsq := fun W h => square_any f A c W h hok n hn
  have hE : invE f = if singB f n = true then 7 else if wildB (gS f) n = true then 2 else 0 := by
    unfold invE
    rw [if_neg (by rw [hok]; decide), show f.C.toNat = n from by omega]
  have hg1 : ∀ i k, i ≤ k → k < n → cn (gS f i k) = gS f i k := fun i k _ _ => cn_small (getS_small hok _ _)
  have hgl : ∀ i k : Nat, gS f i k < 18446744073709551616 := fun i k => getS_lt hx.reads.1 _ _
  have hmk1 := fun w => run_make_row' (P := Try.prog) 52 22 (.slice none 0 0) 24 Try.underlying52 info_f64s rfl .i64 .i64 n (by omega) (by omega) w
  have hmk2 := fun w => run_make_row' (P := Try.prog) 22 29 (.float .f64 0) 8 Try.underlying22 info_f64' rfl .i64 .i64 n (by omega) (by omega) w
  have k0 := ((Keep.start w).more hx).alloc #[.int .i64 f.C, .slice A f.xs.length c, .int .i64 f.R, .int .i64 f.T] 24
  unfold facV at hck hsq ⊢
  rw [hn] at hck hsq k0 ⊢
  have K0 := Lib.hid k0; have HCK := Lib.hid hck; have HSQ := Lib.hid hsq; have HE := Lib.hid hE; have HG1 := Lib.hid hg1; have HGL := Lib.hid hgl
  obtain ⟨hn1, hn2⟩ := hn6
  generalize invE f = E at *
  clear hx hok hn hck hsq hE hg1 hgl k0
  go_enter Try.func33, Try.ntmps33
  go_wp2_with fail
  refine (HCK.out _ (K0.out.arg (.head _))).mono ?_
  rintro e w1 ⟨rfl, hb⟩
  have K1 := Lib.hid (K0.out.call hb)
  obtain ⟨r0, r1, r2, r3⟩ := ((K0.out.call hb).box (.head _)).c4
  have HS1 := Lib.hid (show w.heap.size + 1 ≤ w1.heap.size from ((K0.out.call hb).box (.head _)).lt)
  clear hb
  go_wp2_with fail
  go_cut [5, 6] (fun s5 s6 wx => ∃ (Bu Bw : Nat), s5 = .slice (some ⟨Bu, 0, none⟩) n n ∧ s6 = .slice (some ⟨Bw, 0, none⟩) n n ∧ (∃ bu ou ku, RMat wx Bu n bu ou ku (gS f) ∧ (∀ i, i < n → w1.heap.size ≤ bu i ∧ Bw ≠ bu i)) ∧ Bk wx Bw 22 (madeCells #[.slice none 0 0] n) ∧ Bw ≠ Bu ∧ w1.heap.size ≤ Bw ∧ Below w1.heap.size w1 wx)
  case first =>
    have HXA := Lib.hid (fun Y (h : Below w1.heap.size w1 Y) => (K1.out.call h).arg (.head _))
    have HXW := Lib.hid (fun Y (h : Below w1.heap.size w1 Y) => ((K1.out.call h).box (.head _)).c4)
    have HKE := Lib.hid (fun Y (h : Below w1.heap.size w1 Y) => And.intro (HXW.out Y h) h)
    go_region_held3 (fun Y => (Y.cell? ⟨w.heap.size, 0, none⟩ = some (.int .i64 (n : Int)) ∧ Y.cell? ⟨w.heap.size, 1, none⟩ = some (.slice A f.xs.length c) ∧ Y.cell? ⟨w.heap.size, 2, none⟩ = some (.int .i64 f.R) ∧ Y.cell? ⟨w.heap.size, 3, none⟩ = some (.int .i64 f.T)) ∧ Below w1.heap.size w1 Y)
      ((refine HKE.out _ ?_; (repeat (first | assumption | exact Below.refl _ _ | refine Below.allocs ?_ _ | refine Below.drews ?_ | refine Below.chain ?_ (by assumption)))))
      (first
        | (go_at_call 37; (refine (HSQ.out _ (HXA.out _ (by repeat (first | assumption | exact Below.refl _ _ | refine Below.allocs ?_ _ | refine Below.drews ?_ | refine Below.chain ?_ (by assumption))))).mono ?_); rintro e w3 ⟨⟨Bu, rfl, bu, ⟨ou, ku, hru⟩, hBu, hbu⟩, hb3⟩)
        | (refine step_make _ (by rfl) 52 _ (by rfl) n (by rfl) _ _ (hmk1 _) ?_))
    all_goals
      go_wp2_with fail
      go_meet
      refine ⟨Bu, _, rfl, rfl, ⟨bu, ou, ku, ?_, ?_⟩, ?_, ?_, ?_, ?_⟩
      · first
        | exact hru
        | exact hru.below ((Below.refl _ _).alloc (Nat.le_refl _) _)
      · intro i hi
        have h2 := hru.rlt i hi
        first
        | (have h1 : w1.heap.size ≤ bu i := hbu i hi
           exact ⟨h1, by omega⟩)
        | (have h1 : (w1.alloc (.cells (madeCells #[.slice none 0 0] n) 22)).heap.size ≤ bu i := hbu i hi
           rw [World.size_alloc] at h1
           exact ⟨by omega, by omega⟩)
      · first
        | exact Bk.new _ _ _
        | (exact Bk.below (show Bk (w1.alloc (.cells (madeCells #[.slice none 0 0] n) 22)).drew w1.heap.size 22 _ from Bk.new _ _ _) hb3 (by show w1.heap.size < (w1.alloc _).heap.size; rw [World.size_alloc]; omega))
      · have h2 := hru.blt
        first
        | (have h1 : w1.heap.size ≤ Bu := hBu
           omega)
        | (have h1 : (w1.alloc (.cells (madeCells #[.slice none 0 0] n) 22)).heap.size ≤ Bu := hBu
           rw [World.size_alloc] at h1
           omega)
      · first
        | exact Nat.le_refl _
        | (have h5 : Below w1.heap.size w1 w3 := (by repeat (first | assumption | exact Below.refl _ _ | refine Below.chain ?_ (by assumption) | refine Below.allocs ?_ _ | refine Below.drews ?_)); exact h5.size)
      · repeat (first | assumption | exact Below.refl _ _ | refine Below.allocs ?_ _ | refine Below.drews ?_ | refine Below.chain ?_ (by assumption))
  case rest =>
    obtain ⟨Bu, Bw, rfl, rfl, ⟨bu, ou, ku, hru, hbu⟩, hbw, hne, hlo, hbel⟩ := hcut
    have K2 := K1.out.call hbel
    have hH1 : Bw < wc.heap.size := hbw.lt
    have hH2 := hbel.size
    obtain ⟨H, hH⟩ : ∃ H, H = wc.heap.size := ⟨_, rfl⟩
    have HRU := Lib.hid hru; have HBW := Lib.hid hbw; have HK2 := Lib.hid K2
    have HBU := Lib.hid hbu; have HNE := Lib.hid hne
    have hb01 := HS1.out
    rw [← hH] at hH1 hH2
    have HBN := Lib.hid (show ∀ i, i < n → bu i < H from fun i hi => by rw [hH]; exact hru.rlt i hi)
    have HBL2 := Lib.hid (show Bu < H from by rw [hH]; exact hru.blt)
    have HHH := Lib.hid hH
    clear hru hbw hbu hne hbel K2 hH r0 r1 r2 r3
    go_wp2_with fail
    go_loopw [21] (fun iv wr => ∃ (q : Nat) (cells : Array Value), q ≤ n ∧ iv = .int .i64 (q : Int) ∧ Bk wr Bw 22 cells ∧ cells.size = n ∧ Row0 wr H n cells q ∧ wr.heap.size = H + q ∧ RMat wr Bu n bu ou ku (gS f) ∧ Bk wr w.heap.size 24 #[.int .i64 (n : Int), .slice A f.xs.length c, .int .i64 f.R, .int .i64 f.T] ∧ Below w.heap.size w wr ∧ ∀ i, i < q → rg (gS f i i) ≠ 0) (fun iv _ => n - (intOf iv).toNat)
    case atStart => exact ⟨0, _, Nat.zero_le _, rfl, HBW.out, by rw [size_madeCells], fun i hi => absurd hi (Nat.not_lt_zero _), by rw [HHH.out]; rfl, HRU.out, HK2.out.box (.head _), HK2.out.below, fun i hi => absurd hi (Nat.not_lt_zero _)⟩
    case round =>
      obtain ⟨q, cells, hq, rfl, hB, hsz, hR, hws, hu, hF, hbl, hnz⟩ := hrel
      by_cases hlt : (q : Int) < (n : Int)
      · have hqn : q < n := by omega
        have a0 := hu.out q hqn
        have a1 := hu.row q q hqn hqn
        have hcq : ∃ u, cells[q]? = some u := ⟨_, Array.getElem?_eq_getElem (by omega)⟩
        obtain ⟨u, hcu⟩ := hcq
        have c0 : wr.cell? ⟨Bw, q, none⟩ = some u := (hB.cell q).trans hcu
        have f0 := hB.frozen q
        obtain ⟨r0, r1, r2, r3⟩ := hF.c4
        have hfz := feq_zero (gS f q q)
        have HB := Lib.hid hB; have HSZ := Lib.hid hsz; have HR := Lib.hid hR; have HWS := Lib.hid hws; have HU := Lib.hid hu; have HF := Lib.hid hF; have HBLW := Lib.hid hbl; have HNZ := Lib.hid hnz
        by_cases hz : rg (gS f q q) = 0
        · rw [decide_eq_true hz] at hfz
          have hEE : E = 7 := by rw [HE.out, if_pos (singB_at hqn hz)]
          clear hB hsz hR hws hu hF hbl hnz hz hcu
          go_wp2
          refine bodyPost_ret (v := .tuple #[.slice none 0 0, .slice none 0 0, .int .i64 7]) (by simp [results, Try.results33, go_sem]) rfl ?_
          exact ⟨.inl ⟨by rw [hEE]; decide, by rw [hEE]⟩, HBLW.out⟩
        · rw [decide_eq_false hz] at hfz
          have HZ := Lib.hid hz
          have c1 : (wr.alloc (.cells (madeCells #[.float .f64 0] n) 29)).cell? ⟨Bw, q, none⟩ = some u := ((hB.alloc _).cell q).trans hcu
          have f1 : (wr.alloc (.cells (madeCells #[.float .f64 0] n) 29)).frozen? ⟨Bw, q, none⟩ = false := (hB.alloc _).frozen q
          clear hB hsz hR hws hu hF hbl hnz hz hcu
          go_wp2
          go_roundw
          case rel =>
            have hnw := Bk.new wr 29 (madeCells #[.float .f64 0] n)
            have hwz := HWS.out
            refine ⟨q + 1, _, by omega, by go_num, (HB.out.alloc _).set q _, by rw [Array.size_setIfInBounds]; exact HSZ.out, ?_, ?_, ?_, ?_, ?_, ?_⟩
            · intro i hi
              by_cases e : i = q
              · subst e
                refine ⟨?_, ?_⟩
                · rw [Array.getElem?_setIfInBounds_self_of_lt (by have := HSZ.out; omega), hwz]
                · rw [← hwz]; exact hnw.other (p := ⟨Bw, i, none⟩) (by dsimp only; omega) _
              · obtain ⟨h1, h2⟩ := HR.out i (by omega)
                refine ⟨?_, ?_⟩
                · rw [Array.getElem?_setIfInBounds_ne (by omega)]; exact h1
                · exact (h2.alloc _).other (p := ⟨Bw, q, none⟩) (by dsimp only; omega) _
            · simp [World.setCell, hwz]; omega
            · exact (HU.out.below ((Below.refl _ _).alloc (Nat.le_refl _) _)).other (p := ⟨Bw, q, none⟩) (by have := HNE.out; dsimp only; omega) (fun i hi => by have := (HBU.out i hi).2; dsimp only; omega) _
            · exact (HF.out.alloc _).other (p := ⟨Bw, q, none⟩) (by dsimp only; omega) _
            · exact (HBLW.out.alloc HBLW.out.size _).setCell (by dsimp only; omega) _
            · intro i hi
              by_cases e : i = q
              · subst e; exact HZ.out
              · exact HNZ.out i (by omega)
          case measure => simp [intOf]; omega
      · have hqe : q = n := by omega
        rw [hqe] at hR hws hnz
        have hwm := hR.wmat hB hH1 hws (by omega)
        have HWM := Lib.hid hwm; have HU := Lib.hid hu; have HBLW := Lib.hid hbl; have HNZ := Lib.hid hnz
        have HWS := Lib.hid hws
        clear hB hsz hR hws hu hF hbl hnz hwm
        go_wp2_with fail
        go_loopw [41] (fun iv wq => ∃ (q : Nat) (M : Nat → Nat → Nat), q ≤ n ∧ iv = .int .i64 (q : Int) ∧ WMat wq Bw n (fun i => H + i) (fun _ => n) M ∧ RMat wq Bu n bu ou ku (gS f) ∧ (∀ i j, j < q → i ≤ j → cn (M i j) = wS (gS f) i j) ∧ (∀ i j, i < n → j < n → (j < i ∨ q ≤ j) → M i j = 0) ∧ Below w.heap.size w wq) (fun iv _ => n - (intOf iv).toNat)
        case atStart => exact ⟨0, _, Nat.zero_le _, rfl, HWM.out, HU.out, fun i j h _ => absurd h (Nat.not_lt_zero _), fun _ _ _ _ _ => rfl, HBLW.out⟩
        case round =>
          obtain ⟨q, M, hq, rfl, hw, hu, hd, hz, hbl⟩ := hrel
          have HW := Lib.hid hw; have HU2 := Lib.hid hu; have HD := Lib.hid hd; have HZ := Lib.hid hz; have HBL := Lib.hid hbl
          by_cases hlt : (q : Int) < (n : Int)
          · have hqn : q < n := by omega
            have hsv := solve_any (gS f) n q hqn (by omega) H Bu Bw bu ou ku (fun i => H + i) (fun _ => n) (gS f) M n n wr hu hw HG1.out HG1.out (fun i hi => by have := HBL2.out; show Bu ≠ H + i; omega) (fun i i' hi hi' => by have := HBN.out i hi; show bu i ≠ H + i'; omega) (fun i hi => Nat.le_add_right _ _)
            have HSV := Lib.hid hsv
            clear hw hu hd hz hbl hsv
            go_wp2_with fail
            refine HSV.out.mono ?_
            rintro e w5 ⟨rfl, M', hM'⟩
            have HM' := Lib.hid hM'
            clear hM'
            go_wp2
            go_roundw
            case rel => exact ⟨q + 1, M', by omega, by go_num, HM'.out.wm, HM'.out.rm, fun i j hj hij => by
              by_cases e : j = q
              · subst e; exact HM'.out.don i (Nat.zero_le _) hij
              · rw [HM'.out.oth i j (by omega) (by omega) e]; exact HD.out i j (by omega) hij, fun i j hi hj hc => by
              by_cases e : j = q
              · subst e
                rw [HM'.out.low i hi (by omega)]
                exact HZ.out i j hi hj (.inl (by omega))
              · rw [HM'.out.oth i j hi hj e]
                exact HZ.out i j hi hj (by omega), HBL.out.trans (HM'.out.bel.mono (by omega))⟩
            case measure => simp [intOf]; omega
          · have hqe : q = n := by omega
            rw [hqe] at hd hz
            have HD2 := Lib.hid hd; have HZ2 := Lib.hid hz
            have hfin : (∀ i j, i < n → j < n → wildS (M i j) = false) → E = 0 := fun h => by
              rw [HE.out, if_neg (by rw [singB_no HNZ.out]; decide), if_neg (by
                rw [wildB_no (fun i j hij hj => by rw [← HD2.out i j hj hij, ← wild_cn]; exact h i j (by omega) hj)]; decide)]
            have hbad : ∀ i j, i < n → j < n → wildS (M i j) = true → E = 2 := fun i j hi hj h => by
              have hij : i ≤ j := by
                rcases Nat.lt_or_ge j i with h1 | h1
                · rw [HZ2.out i j hi hj (.inl h1), wild_zero] at h; cases h
                · exact h1
              rw [HE.out, if_neg (by rw [singB_no HNZ.out]; decide), if_pos (wildB_at hij hj (by rw [← HD2.out i j hj hij, ← wild_cn]; exact h))]
            have HFIN := Lib.hid hfin; have HBAD := Lib.hid hbad
            have HCT := Lib.hid (fun i (hi : i < n) => containsWild (some ⟨H + i, 0, none⟩) (rowL M i n) n wr (hw.rm.row_arg hi).reads (by rw [rowL_len]; omega))
            obtain ⟨w4, hw4⟩ : ∃ w4, w4 = wr := ⟨_, rfl⟩
            rw [← hw4] at HCT HW HU2 HBL ⊢
            clear hw hu hd hz hbl hw4 hfin hbad hqe
            go_wp2_with fail
            go_loopw [51] (fun iv wq => ∃ q : Nat, q ≤ n ∧ iv = .int .i64 (q : Int) ∧ (∀ i j, i < q → j < n → wildS (M i j) = false) ∧ wq = w4) (fun iv _ => n - (intOf iv).toNat)
            case atStart => exact ⟨0, Nat.zero_le _, rfl, fun i j h _ => absurd h (Nat.not_lt_zero _), rfl⟩
            case round =>
              obtain ⟨q, hq, rfl, hnw, rfl⟩ := hrel
              have HNW := Lib.hid hnw
              clear hnw
              by_cases hlt : (q : Int) < (n : Int)
              · have hqn : q < n := by omega
                have a0 := HW.out.rm.out q hqn
                have hct := HCT.out q hqn
                rw [rowL_len] at hct
                have hany := rowL_any (M := M) (i := q) (n := n)
                have hnone := rowL_none (M := M) (i := q) (n := n)
                generalize (rowL M q n).any wildS = rb at *
                have HCQ := Lib.hid hct; have HAN := Lib.hid hany; have HNO := Lib.hid hnone
                clear hct hany hnone
                cases rb
                · go_wp2_with fail
                  refine HCQ.out.mono ?_
                  rintro e w5 ⟨rfl, rfl⟩
                  go_wp2
                  go_roundw
                  case rel => exact ⟨q + 1, by omega, by go_num, fun i j hi hj => by
                    by_cases e : i = q
                    · subst e; exact HNO.out (by first | rfl | trivial) j hj
                    · exact HNW.out i j (by omega) hj, trivial⟩
                  case measure => simp [intOf]; omega
                · go_wp2_with fail
                  refine HCQ.out.mono ?_
                  rintro e w5 ⟨rfl, rfl⟩
                  obtain ⟨j, hj, hwj⟩ := HAN.out (by first | rfl | trivial)
                  have hE2 := HBAD.out q j hqn hj hwj
                  clear hwj
                  go_wp2
                  refine bodyPost_ret (v := .tuple #[.slice none 0 0, .slice none 0 0, .int .i64 2]) (by simp [results, Try.results33, go_sem]) rfl ?_
                  exact ⟨.inl ⟨by rw [hE2]; decide, by rw [hE2]⟩, HBL.out⟩
              · have hqe : q = n := by omega
                have hE0 := HFIN.out (fun i j hi hj => HNW.out i j (by omega) hj)
                clear hqe
                go_wp2
                refine bodyPost_ret (v := .tuple #[.slice (some ⟨Bu, 0, none⟩) n n, .slice (some ⟨Bw, 0, none⟩) n n, .int .i64 0]) (by simp [results, Try.results33, go_sem]) rfl ?_
                refine ⟨.inr ⟨(by first | exact hE0 | rfl), Bu, Bw, rfl, ⟨⟨bu, ou, ku, HU2.out, fun i hi => by have := (HBU.out i hi).1; omega⟩, ⟨_, _, M, HW.out.rm, fun i hi => ?_, fun i j hij hj => HD2.out i j hj hij, fun i j hi hj => HZ2.out i j hi (by omega) (.inl hj)⟩⟩⟩, HBL.out⟩
                show w.heap.size ≤ H + i
                omega

/-- Whatever the factor. -/
theorem invert_any (f : Fct) (A : Option Addr) (c : Nat) (w : World) (hx : SlArg w A f.xs c) :
    Calls Try.prog 33 #[facV f.C A f.xs.length c f.R f.T] w fun e w' => InvPost f f.C.toNat (invE f) w.heap.size e w' ∧ Below w.heap.size w w' := by
  cases hok : f.ok
  · refine (invert_no f A c w hx hok).mono ?_
    rintro e w' ⟨rfl, hb⟩
    have hE : invE f = 1 := by unfold invE; rw [if_pos hok]
    exact ⟨.inl ⟨by rw [hE]; decide, by rw [hE]⟩, hb⟩
  · have hc := ok_len hok
    exact invert_in f A c w hx hok f.C.toNat (by omega)
end Go.Proofs.Ytigacobphgeeaaa
