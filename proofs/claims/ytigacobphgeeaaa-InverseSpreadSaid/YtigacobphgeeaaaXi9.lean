/- The document's inverse: whole. -/
import Derived.Test.YtigacobphgeeaaaXh9
import Derived.Test.YtigacobphgeeaaaW9
set_option linter.unusedVariables false
namespace Go.Proofs.Ytigacobphgeeaaa
open Go.RowKit Go.Shelf Lev

def rwV (n b : Nat) : Value := .slice (some ⟨b, 0, none⟩) n n
theorem Bk.grown {w w' : World} {b : Nat} {t : TypeId} {cs : Array Value} {row : Option Nat} (h : Bk w b t cs) (hg : w.grownBy w' row) (hne : some b ≠ row) : Bk w' b t cs := (hg.block b h.lt hne).trans h
/-- A list of rows, still zero. -/
structure RowsO (w : World) (base : Nat) (v : Value) (n : Nat) (bs : List Nat) : Prop where
  own : w.ownsRow base 22 1 v bs.length (bs.map (rwV n))
  bk : ∀ b ∈ bs, Bk w b 29 (madeCells #[.float .f64 0] n) ∧ base ≤ b
  nd : bs.Nodup
theorem RowsO.nil (w : World) (base n : Nat) : RowsO w base (.slice none 0 0) n [] := ⟨⟨rfl, .inl ⟨rfl, rfl⟩⟩, fun b h => absurd h List.not_mem_nil, List.nodup_nil⟩
theorem own_blk {w : World} {base : Nat} {e : TypeId} {v : Value} {k : Nat} {xs : List Value} (h : w.ownsRow base e 1 v k xs) : ∀ g, v.ownBlock = some g → ∃ cs, Bk w g e cs := fun g hg => by
  rcases h.2 with ⟨rfl, _⟩ | ⟨g', cap, cur, rfl, _, h3, _⟩
  · simp [Value.ownBlock] at hg
  · have : g' = g := by simpa [Value.ownBlock] using hg
    subst this
    exact ⟨cur, h3⟩
theorem bk_types {w : World} {g : Nat} {t t' : TypeId} {cs cs' : Array Value} (h : Bk w g t cs) (h' : Bk w g t' cs') : t = t' := by
  unfold Bk at h h'
  rw [h] at h'
  have := Option.some.inj h'
  injection this
theorem RowsO.snoc {w wa wb w' : World} {base n : Nat} {v v' : Value} {bs : List Nat} (h : RowsO w base v n bs) (hbase : base ≤ w.heap.size) (ha : wa = w.alloc (.cells (madeCells #[.float .f64 0] n) 29)) (hb : Below wa.heap.size wa wb)
    (hown : w'.ownsRow base 22 1 v' (bs.length + 1) (bs.map (rwV n) ++ [rwV n w.heap.size])) (hgr : wb.grownBy w' v.ownBlock) : RowsO w' base v' n (bs ++ [w.heap.size]) := by
  have h1 : ∀ b ∈ bs ++ [w.heap.size], Bk wb b 29 (madeCells #[.float .f64 0] n) ∧ base ≤ b := fun b hb2 => by
    rcases List.mem_append.1 hb2 with h2 | h2
    · obtain ⟨h3, h4⟩ := h.bk b h2
      have h5 : Bk wa b 29 (madeCells #[.float .f64 0] n) := by rw [ha]; exact h3.alloc _
      exact ⟨h5.below hb h5.lt, h4⟩
    · rw [List.mem_singleton.1 h2]
      have h5 : Bk wa w.heap.size 29 (madeCells #[.float .f64 0] n) := by rw [ha]; exact Bk.new _ _ _
      exact ⟨h5.below hb h5.lt, hbase⟩
  refine ⟨by rw [List.map_append, List.length_append]; exact hown, fun b hb2 => ⟨(h1 b hb2).1.grown hgr (fun e => ?_), (h1 b hb2).2⟩, ?_⟩
  · obtain ⟨cs, h6⟩ := own_blk h.own b e.symm
    have h7 : Bk wb b 22 cs := by
      have h8 : Bk wa b 22 cs := by rw [ha]; exact h6.alloc _
      exact h8.below hb h8.lt
    exact absurd (bk_types h7 (h1 b hb2).1) (by decide)
  · rw [List.nodup_append]
    refine ⟨h.nd, List.nodup_cons.2 ⟨List.not_mem_nil, List.nodup_nil⟩, fun a ha2 b hb2 e => ?_⟩
    rw [List.mem_singleton.1 hb2] at e
    have := (h.bk a ha2).1.lt
    omega
theorem own_lo {w : World} {base : Nat} {e : TypeId} {v : Value} {k : Nat} {xs : List Value} (h : w.ownsRow base e 1 v k xs) : ∀ g, v.ownBlock = some g → base ≤ g := fun g hg => by
  rcases h.2 with ⟨rfl, _⟩ | ⟨g', cap, cur, rfl, h2, _⟩
  · simp [Value.ownBlock] at hg
  · have : g' = g := by simpa [Value.ownBlock] using hg
    omega
/-- The rows as a square. -/
theorem RowsO.wmat {w : World} {base n : Nat} {v : Value} {bs : List Nat} (h : RowsO w base v n bs) (hl : bs.length = n) (hn : 1 ≤ n ∧ n < 7) : ∃ B c, v = .slice (some ⟨B, 0, none⟩) n c ∧ n ≤ c ∧ c ≤ 9223372036854775807 ∧ WMat w B n (fun i => bs[i]?.getD 0) (fun _ => n) (fun _ _ => 0) ∧ ∀ i, i < n → base ≤ bs[i]?.getD 0 := by
  have hb : ∀ i, i < n → Bk w (bs[i]?.getD 0) 29 (madeCells #[.float .f64 0] n) ∧ base ≤ bs[i]?.getD 0 := fun i hi => by
    rw [List.getElem?_eq_getElem (by omega)]; exact h.bk _ (List.getElem_mem _)
  rcases h.own.2 with ⟨_, h0⟩ | ⟨g, cap, cur, e, h2, h3, h4, h5, h6, h7⟩
  · omega
  · have hB : Bk w g 22 cur := h3
    refine ⟨g, cap, by rw [e, hl], by omega, h5, ⟨⟨fun i hi => ?_, fun i j hi hj => ?_, hB.lt, fun i hi => (hb i hi).1.lt, fun _ _ => by decide, fun i hi => ⟨Nat.le_refl _, by omega⟩⟩, fun i hi => ⟨_, _, (hb i hi).1⟩, fun i i' hi hi' e2 => ?_, fun i hi e2 => ?_⟩, fun i hi => (hb i hi).2⟩
    · rw [hB.cell i]
      have h8 : (cur.toList.take (bs.length * 1))[i]? = (bs.map (rwV n))[i]? := by rw [h7]
      rw [List.getElem?_take_of_lt (by omega), Array.getElem?_toList, List.getElem?_map, List.getElem?_eq_getElem (by omega)] at h8
      rw [h8, List.getElem?_eq_getElem (by omega)]; rfl
    · show w.cell? ⟨bs[i]?.getD 0, 0 + j, none⟩ = _
      rw [Nat.zero_add, (hb i hi).1.cell j, cells_zero n _ j hj]
    · have e2 : bs[i]?.getD 0 = bs[i']?.getD 0 := e2
      rw [List.getElem?_eq_getElem (by omega), List.getElem?_eq_getElem (by omega)] at e2
      have hp := List.pairwise_iff_getElem.1 h.nd
      rcases Nat.lt_trichotomy i i' with h9 | h9 | h9
      · exact absurd e2 (hp i i' (by omega) (by omega) h9)
      · exact h9
      · exact absurd e2.symm (hp i' i (by omega) (by omega) h9)
    · have e2 : bs[i]?.getD 0 = g := e2
      have h8 := (hb i hi).1
      rw [e2] at h8
      exact absurd (bk_types hB h8) (by decide)
/-- What whole has done: the rows from lo to j of column j. -/
structure TInv (g : Nat → Nat → Nat) (n j : Nat) (W0 : World) (B : Nat) (b k : Nat → Nat) (MW : Nat → Nat → Nat) (lo : Nat) (wx : World) (M : Nat → Nat → Nat) : Prop where
  wm : WMat wx B n b k M
  oth : ∀ i a, i < n → a < n → a ≠ j → M i a = MW i a
  don : ∀ i, lo ≤ i → i ≤ j → cn (M i j) = wS g i j
  low : ∀ i, i < n → j < i → M i j = MW i j
  bel : Below W0.heap.size W0 wx
theorem TInv.call {g : Nat → Nat → Nat} {n j : Nat} {W0 : World} {B : Nat} {b k : Nat → Nat} {MW : Nat → Nat → Nat} {lo : Nat} {wx w' : World} {M : Nat → Nat → Nat} (h : TInv g n j W0 B b k MW lo wx M) (hb : Below wx.heap.size wx w') : TInv g n j W0 B b k MW lo w' M :=
  ⟨h.wm.below hb, h.oth, h.don, h.low, Below.chain h.bel hb⟩
theorem TInv.set {g : Nat → Nat → Nat} {n j : Nat} {W0 : World} {B : Nat} {b k : Nat → Nat} {MW : Nat → Nat → Nat} {lo : Nat} {wx : World} {M : Nat → Nat → Nat} (h : TInv g n j W0 B b k MW lo wx M) (hjn : j < n)
    (hH : ∀ i, i < n → W0.heap.size ≤ b i) {i v : Nat} (hi : lo = i + 1) (hij : i ≤ j) (hv : v < 18446744073709551616) (hc : cn v = wS g i j) :
    TInv g n j W0 B b k MW i (wx.setCell ⟨b i, j, none⟩ (.float .f64 v)) (upd M i j v) := by
  refine ⟨h.wm.set (by omega) hjn hv, fun a k ha hk hne => ?_, fun a h1 h2 => ?_, fun a ha h1 => ?_, h.bel.setCell (hH i (by omega)) _⟩
  · rw [upd_ne _ _ (.inr hne)]; exact h.oth a k ha hk hne
  · by_cases e : a = i
    · subst e; rw [upd_at]; exact hc
    · rw [upd_ne _ _ (.inl e)]; exact h.don a (by omega) h2
  · rw [upd_ne _ _ (.inl (by omega))]; exact h.low a ha h1

attribute [local go_sem] run_store_float run_add_all run_sub_all run_mul_all run_quo_all

set_option maxRecDepth 100000 in
set_option maxHeartbeats 8000000 in
theorem whole_any (f : Fct) (A : Option Addr) (c : Nat) (w : World) (hx : SlArg w A f.xs c) (hok : f.ok = true) (n : Nat) (hn : f.C = (n : Int)) :
    Calls Try.prog 34 #[facV f.C A f.xs.length c f.R f.T] w fun e w' => (∃ B cB, e = .returned (.slice (some ⟨B, 0, none⟩) n cB) ∧ (n ≤ cB ∧ cB ≤ 9223372036854775807) ∧ ∃ b M, WMat w' B n b (fun _ => n) M ∧ (∀ i j, i ≤ j → j < n → cn (M i j) = wS (gS f) i j) ∧ ∀ i j, i < n → j < i → M i j = 0) ∧ Below w.heap.size w w' := by
  have hn6 : 1 ≤ n ∧ n ≤ 6 := by have := ok_len hok; omega
  have hgt := fun (W : World) (i j : Nat) h => rget_any f A c (i : Int) (j : Int) W h
  have hg1 : ∀ i k : Nat, cn (gS f i k) = gS f i k := fun i k => cn_small (getS_small hok _ _)
  have hmk2 := fun w => run_make_row' (P := Try.prog) 22 29 (.float .f64 0) 8 Try.underlying22 info_f64' rfl .i64 .i64 n (by omega) (by omega) w
  obtain ⟨i0, hi, hz0, hz1, hz2⟩ := info_parts info_f64s
  have HI := Lib.hid hi; have HZ0 := Lib.hid hz0; have HZ1 := Lib.hid hz1; have HZ2 := Lib.hid hz2
  obtain ⟨W0, hW0⟩ : ∃ W0, W0 = w.alloc (.cells #[.int .i64 f.C, .slice A f.xs.length c, .int .i64 f.R, .int .i64 f.T] 24) := ⟨_, rfl⟩
  have hb0 : Bk W0 w.heap.size 24 #[.int .i64 f.C, .slice A f.xs.length c, .int .i64 f.R, .int .i64 f.T] := by rw [hW0]; exact Bk.new _ _ _
  have hbe : Below w.heap.size w W0 := by rw [hW0]; exact (Below.refl _ _).alloc (Nat.le_refl _) _
  have hx0 := hx.below hbe
  unfold facV at hgt ⊢
  rw [hn] at hgt hb0 hW0 ⊢
  have HGT := Lib.hid (fun (W : World) (i j : Nat) h => show Calls Try.prog 23 #[.agg #[.int .i64 (n : Int), .slice A f.xs.length c, .int .i64 f.R, .int .i64 f.T], .int .i64 (i : Int), .int .i64 (j : Int)] W fun e w' => e = .returned (.float .f64 (gS f i j)) ∧ Below W.heap.size W w' from hgt W i j h)
  have HX := Lib.hid hx0; have HB0 := Lib.hid hb0; have HBE := Lib.hid hbe; have HW := Lib.hid hW0; have HG1 := Lib.hid hg1
  have HXW := Lib.hid (fun Y (h : Below W0.heap.size W0 Y) => hx0.below h)
  have HBW := Lib.hid (fun Y (h : Below W0.heap.size W0 Y) => (hb0.below h hb0.lt).c4)
  obtain ⟨hn1, hn2⟩ := hn6
  obtain ⟨r0, r1, r2, r3⟩ := hb0.c4
  rw [hW0] at r0 r1 r2 r3
  clear hx hok hn hgt hg1 hi hz0 hz1 hz2 hb0 hbe hx0 hW0
  go_enter Try.func34, Try.ntmps34
  go_wp2_with fail
  rw [← HW.out] at r0 r1 r2 r3 ⊢
  go_loopw [3, 4] (fun v i wr => ∃ (q : Nat) (bs : List Nat), q ≤ n ∧ i = .int .i64 (q : Int) ∧ RowsO wr W0.heap.size v n bs ∧ bs.length = q ∧ Below W0.heap.size W0 wr) (fun _ i _ => n - (intOf i).toNat)
  case atStart => exact ⟨0, [], Nat.zero_le _, rfl, RowsO.nil _ _ _, rfl, Below.refl _ _⟩
  case round =>
    obtain ⟨q, bs, hq, rfl, hrow, hbl, hbel⟩ := hrel
    clear r0 r1 r2 r3
    obtain ⟨r0, r1, r2, r3⟩ := HBW.out _ hbel
    have HR := Lib.hid hrow; have HBS := Lib.hid hbl; have HBEL := Lib.hid hbel; have HSZ := Lib.hid hbel.size
    clear hrow hbl hbel
    by_cases hlt : (q : Int) < (n : Int)
    · have hown2 : ((wr.alloc (.cells (madeCells #[.float .f64 0] n) 29)).alloc (.cells #[.slice (some ⟨wr.heap.size, 0, none⟩) n n] 22)).ownsRow W0.heap.size 22 1 u3 bs.length (bs.map (rwV n)) := (HR.out.own.alloc _).alloc _
      have hcell : ((wr.alloc (.cells (madeCells #[.float .f64 0] n) 29)).alloc (.cells #[.slice (some ⟨wr.heap.size, 0, none⟩) n n] 22)).cell? ⟨wr.heap.size + 1, 0, none⟩ = some (rwV n wr.heap.size) := by
        have h1 := Bk.new (wr.alloc (.cells (madeCells #[.float .f64 0] n) 29)) 22 #[.slice (some ⟨wr.heap.size, 0, none⟩) n n]
        rw [World.size_alloc] at h1
        exact h1.cell 0
      have HO2 := Lib.hid hown2; have HCE := Lib.hid hcell
      have hl9 : bs.length ≤ 6 := by have := HBS.out; omega
      clear hown2 hcell
      go_wp2_with (at_builtin; refine wpList_append_own _ rfl _ _ 51 rfl W0.heap.size 22 i0 (.slice none 0 0) 1 24 Try.underlying51 HI.out HZ0.out HZ1.out HZ2.out rfl (by decide) _ _ _ rfl HO2.out ⟨wr.heap.size + 1, 0, none⟩ 1 1 [rwV n wr.heap.size] rfl rfl (fun a u hu => by
        have ha : a = 0 := by
          rcases a with _ | a
          · rfl
          · simp at hu
        subst ha
        have hu : some (rwV n wr.heap.size) = some u := hu
        rw [addr_add, ← hu]; exact HCE.out) (fun u hu => by rw [List.mem_singleton.1 hu]; rfl) (by unfold maxLen; omega) (by omega) (by have := HSZ.out; simp; omega) ?_; intro v' w1 hown' hgrow _)
      go_roundw
      case rel => exact ⟨q + 1, bs ++ [wr.heap.size], by omega, by go_num, HR.out.snoc HSZ.out rfl ((Below.refl _ _).alloc (Nat.le_refl _) _) hown' hgrow, by rw [List.length_append, HBS.out]; rfl, ((HBEL.out.alloc HSZ.out _).alloc (by have := HSZ.out; simp; omega) _).grown hgrow (by have := HSZ.out; simp; omega) (fun g hg => by
        obtain ⟨cs, h6⟩ := own_blk HR.out.own g hg
        exact own_lo HR.out.own g hg)⟩
      case measure => simp [intOf]; omega
    · have hqe : q = n := by omega
      have hbs : bs.length = n := by rw [HBS.out]; exact hqe
      obtain ⟨B, cB, rfl, hc1, hc2, hwm, hlo⟩ := HR.out.wmat hbs ⟨hn1, by omega⟩
      obtain ⟨b, hbdef⟩ : ∃ b : Nat → Nat, b = fun i => bs[i]?.getD 0 := ⟨_, rfl⟩
      have hlo2 : ∀ i, i < n → W0.heap.size ≤ b i := fun i hi => by rw [hbdef]; exact hlo i hi
      rw [← hbdef] at hwm
      have HWM := Lib.hid hwm; have HLO := Lib.hid hlo2; have HCB := Lib.hid (And.intro hc1 hc2)
      clear hqe hbs hwm hlo hlo2 hbdef hc1 hc2
      go_wp2_with fail
      clear r0 r1 r2 r3
      go_loopw [5] (fun iv wq => ∃ (j : Nat) (M : Nat → Nat → Nat), j ≤ n ∧ iv = .int .i64 (j : Int) ∧ WMat wq B n b (fun _ => n) M ∧ (∀ i a, a < j → i ≤ a → cn (M i a) = wS (gS f) i a) ∧ (∀ i a, i < n → a < n → (a < i ∨ j ≤ a) → M i a = 0) ∧ Below W0.heap.size W0 wq) (fun iv _ => n - (intOf iv).toNat)
      case atStart => exact ⟨0, _, Nat.zero_le _, rfl, HWM.out, fun i a h _ => absurd h (Nat.not_lt_zero _), fun _ _ _ _ _ => rfl, HBEL.out⟩
      case round =>
        obtain ⟨j, MW, hjn, rfl, hw, hd, hz, hbl⟩ := hrel
        obtain ⟨r0, r1, r2, r3⟩ := HBW.out _ hbl
        have HW2 := Lib.hid hw; have HD := Lib.hid hd; have HZ := Lib.hid hz; have HBL := Lib.hid hbl
        by_cases hlt : (j : Int) < (n : Int)
        · have hj : j < n := by omega
          have hI0 : TInv (gS f) n j W0 B b (fun _ => n) MW (j + 1) wr MW := ⟨hw, fun _ _ _ _ _ => rfl, fun i h1 h2 => by omega, fun _ _ _ => rfl, hbl⟩
          have HI0 := Lib.hid hI0
          have a0 := hw.rm.out j hj
          have a1 := hw.rm.row j j hj hj
          have a4 := hw.frozen hj j
          rw [Nat.zero_add] at a1
          have HFA := Lib.hid (fun Y (h : Below wr.heap.size wr Y) => And.intro ((hw.below h).rm.out j hj) (And.intro ((Nat.zero_add j) ▸ (hw.below h).rm.row j j hj hj) ((hw.below h).frozen hj j)))
          have HXA := Lib.hid (fun Y (h : Below wr.heap.size wr Y) => HXW.out Y (Below.chain hbl h))
          have HBA := Lib.hid (fun Y (h : Below wr.heap.size wr Y) => HBW.out Y (Below.chain hbl h))
          have HGJ := Lib.hid (fun W h => HGT.out W j j h)
          clear hw hd hz hbl hI0
          go_wp2_with fail
          go_cut [] (fun wx => ∃ M, TInv (gS f) n j W0 B b (fun _ => n) MW j wx M)
          case first =>
            go_region_with (go_at_call 23; (refine (HGJ.out _ (HXA.out _ ?_)).mono ?_); (exact (by repeat (first | assumption | exact Below.refl _ _ | refine Below.drews ?_ | refine Below.chain ?_ (by assumption)))); rintro e w3 ⟨rfl, hb3⟩; have hb4 : Below wr.heap.size wr w3 := (by repeat (first | assumption | exact Below.refl _ _ | refine Below.drews ?_ | refine Below.chain ?_ (by assumption))); obtain ⟨x0, x1, x2⟩ := HFA.out w3 hb4; obtain ⟨y0, y1, y2, y3⟩ := HBA.out w3 hb4)
            all_goals
              go_wp2_with fail
              go_meet
              refine ⟨_, (TInv.call (HI0.out.call hb4) ?_).set hj HLO.out rfl (Nat.le_refl _) (arV_lt _ _ _ _) ?_⟩
              · (repeat (first | exact Below.refl _ _ | refine Below.drews ?_ | refine Below.drewNs ?_ _))
              · rw [cn_arV, wS_diag]
                exact arS_both .quo (by simp) (by decide +kernel) (HG1.out j j) (by decide +kernel) (HG1.out j j)
          case rest =>
            obtain ⟨M0, hM0⟩ := hcut
            have HM0 := Lib.hid hM0
            clear hM0 a0 a1 a4 r0 r1 r2 r3 HFA HXA HBA
            go_wp2_with fail
            go_loopw [6] (fun iv wq => ∃ (q : Nat) (M : Nat → Nat → Nat), q ≤ j ∧ iv = .int .i64 ((q : Int) - 1) ∧ TInv (gS f) n j W0 B b (fun _ => n) MW q wq M) (fun iv _ => (intOf iv + 1).toNat)
            case atStart => exact ⟨j, M0, Nat.le_refl _, rfl, HM0.out⟩
            case round =>
              obtain ⟨q, M, hq, rfl, hM⟩ := hrel
              rcases Nat.eq_zero_or_pos q with h0 | h0
              · subst h0
                have HM := Lib.hid hM
                clear hM
                go_wp2
                go_roundw
                case rel => exact ⟨j + 1, M, by omega, by go_num, HM.out.wm, fun i a ha hia => by
                  by_cases e : a = j
                  · subst e; exact HM.out.don i (Nat.zero_le _) hia
                  · rw [HM.out.oth i a (by omega) (by omega) e]; exact HD.out i a (by omega) hia, fun i a hi ha hc => by
                  by_cases e : a = j
                  · subst e
                    rw [HM.out.low i hi (by omega)]
                    exact HZ.out i a hi ha (.inl (by omega))
                  · rw [HM.out.oth i a hi ha e]
                    exact HZ.out i a hi ha (by omega), HM.out.bel⟩
                case measure => simp [intOf]; omega
              · obtain ⟨i, rfl⟩ : ∃ i, q = i + 1 := ⟨q - 1, by omega⟩
                have hi1 : ((i + 1 : Nat) : Int) - 1 = (i : Int) := by omega
                rw [hi1]
                have hi : i < n := by omega
                have hin : (i : Int) < (n : Int) := by omega
                have hge : (0 : Int) ≤ (i : Int) := by omega
                have HM := Lib.hid hM
                clear hM hi1 h0
                go_wp2_with fail
                go_loopw [7, 8] (fun lv kv wq => ∃ (m lb : Nat), m ≤ j - i ∧ lv = .float .f64 lb ∧ lb < 18446744073709551616 ∧ kv = .int .i64 ((i + 1 + m : Nat) : Int) ∧ cn lb = leftL (gS f) i (fun k => wS (gS f) k j) m ∧ TInv (gS f) n j W0 B b (fun _ => n) MW (i + 1) wq M) (fun _ kv _ => (j + 1 - (intOf kv).toNat))
                case atStart => exact ⟨0, 0, Nat.zero_le _, rfl, by decide, by go_num, by show cn 0 = 0; decide +kernel, HM.out⟩
                case round =>
                  obtain ⟨m, lb, hm, rfl, hlb, rfl, hcl, hMi⟩ := hrel
                  have HCL := Lib.hid hcl; have HLB := Lib.hid hlb; have HMI := Lib.hid hMi
                  obtain ⟨r0, r1, r2, r3⟩ := HBW.out _ hMi.bel
                  have HXA := Lib.hid (fun Y (h : Below wr.heap.size wr Y) => HXW.out Y (Below.chain hMi.bel h))
                  have HBA := Lib.hid (fun Y (h : Below wr.heap.size wr Y) => HBW.out Y (Below.chain hMi.bel h))
                  clear hcl hlb
                  by_cases hmj : m < j - i
                  · obtain ⟨k, hk⟩ : ∃ k, k = i + 1 + m := ⟨_, rfl⟩
                    rw [← hk]
                    have hkj : (k : Int) ≤ (j : Int) := by omega
                    have hkn : k < n := by omega
                    have hkn2 : (k : Int) < (n : Int) := by omega
                    have e2 := hMi.wm.rm.out k hkn
                    have e3 := hMi.wm.rm.row k j hkn hj
                    rw [Nat.zero_add] at e3
                    have HFA := Lib.hid (fun Y (h : Below wr.heap.size wr Y) => And.intro ((hMi.wm.below h).rm.out k hkn) ((Nat.zero_add j) ▸ (hMi.wm.below h).rm.row k j hkn hj))
                    have HGQ := Lib.hid (HG1.out i k)
                    have HDN := Lib.hid (hMi.don k (by omega) (by omega))
                    have HCW := Lib.hid (cn_wS (gS f) (i := k) (j := j) (by omega))
                    have HK := Lib.hid hk
                    have hL : leftL (gS f) i (fun k => wS (gS f) k j) (m + 1) = arS .sub (leftL (gS f) i (fun k => wS (gS f) k j) m) (arS .mul (gS f i k) (wS (gS f) k j)) := by rw [hk]; rfl
                    have HL := Lib.hid hL
                    have HCL2 := Lib.hid (cn_leftL (gS f) i (fun k => wS (gS f) k j) m)
                    have HGK := Lib.hid (fun W h => HGT.out W i k h)
                    clear hMi hk hL hmj
                    go_wp2_with fail
                    go_region_with (go_at_call 23; (refine (HGK.out _ (HXA.out _ ?_)).mono ?_); (exact (by repeat (first | assumption | exact Below.refl _ _ | refine Below.drews ?_ | refine Below.chain ?_ (by assumption)))); rintro e w3 ⟨rfl, hb3⟩; have hb4 : Below wr.heap.size wr w3 := (by repeat (first | assumption | exact Below.refl _ _ | refine Below.drews ?_ | refine Below.chain ?_ (by assumption))); obtain ⟨x0, x1⟩ := HFA.out w3 hb4; obtain ⟨y0, y1, y2, y3⟩ := HBA.out w3 hb4)
                    all_goals
                      go_wp2
                      go_roundw
                      case rel => exact ⟨m + 1, _, by have := HK.out; omega, rfl, arV_lt _ _ _ _, by have := HK.out; go_num, by rw [cn_arV, HL.out]; exact arS_both .sub (by simp) HCL.out (by rw [cn_arV]; exact arS_both .mul (by simp) HGQ.out HDN.out HGQ.out HCW.out) HCL2.out (cnArS _ _ _), (HMI.out.call hb4).call (by repeat (first | exact Below.refl _ _ | refine Below.drews ?_ | refine Below.drewNs ?_ _))⟩
                      case measure => simp [intOf]; omega
                  · obtain rfl : m = j - i := by omega
                    have hkj : ¬ ((i + 1 + (j - i) : Nat) : Int) ≤ (j : Int) := by omega
                    have e0 := hMi.wm.rm.out i hi
                    have e1 := hMi.wm.rm.row i j hi hj
                    have e4 := hMi.wm.frozen hi j
                    rw [Nat.zero_add] at e1
                    have HFA := Lib.hid (fun Y (h : Below wr.heap.size wr Y) => And.intro ((hMi.wm.below h).rm.out i hi) (And.intro ((Nat.zero_add j) ▸ (hMi.wm.below h).rm.row i j hi hj) ((hMi.wm.below h).frozen hi j)))
                    have hL := wS_up (gS f) (i := i) (j := j) (by omega)
                    have HL := Lib.hid hL
                    have HGQ := Lib.hid (HG1.out i i)
                    have HCL2 := Lib.hid (cn_leftL (gS f) i (fun k => wS (gS f) k j) (j - i))
                    have HGK := Lib.hid (fun W h => HGT.out W i i h)
                    clear hMi hL hmj
                    go_wp2_with fail
                    go_region_with (go_at_call 23; (refine (HGK.out _ (HXA.out _ ?_)).mono ?_); (exact (by repeat (first | assumption | exact Below.refl _ _ | refine Below.drews ?_ | refine Below.chain ?_ (by assumption)))); rintro e w3 ⟨rfl, hb3⟩; have hb4 : Below wr.heap.size wr w3 := (by repeat (first | assumption | exact Below.refl _ _ | refine Below.drews ?_ | refine Below.chain ?_ (by assumption))); obtain ⟨x0, x1, x2⟩ := HFA.out w3 hb4; obtain ⟨y0, y1, y2, y3⟩ := HBA.out w3 hb4)
                    all_goals
                      go_wp2
                      go_roundw
                      case rel => exact ⟨i, _, by omega, by go_num, ((HMI.out.call hb4).call (by repeat (first | exact Below.refl _ _ | refine Below.drews ?_ | refine Below.drewNs ?_ _))).set hj HLO.out rfl (by omega) (arV_lt _ _ _ _) (by rw [cn_arV, HL.out]; exact arS_both .quo (by simp) HCL.out HGQ.out HCL2.out HGQ.out)⟩
                      case measure => simp [intOf]
        · have hje : j = n := by omega
          rw [hje] at hd hz
          have HD2 := Lib.hid hd; have HZ2 := Lib.hid hz
          clear hw hd hz hbl hje
          go_wp2
          go_ret
          exact ⟨⟨B, cB, rfl, HCB.out, b, MW, HW2.out, fun i a hia ha => HD2.out i a ha hia, fun i a hi ha => HZ2.out i a hi (by omega) (.inl ha)⟩, HBE.out.trans (HBL.out.mono HBE.out.size)⟩
end Go.Proofs.Ytigacobphgeeaaa
