/- The document's inverse: number, Sing, one, square. -/
import Derived.Test.YtigacobphgeeaaaXi9
set_option linter.unusedVariables false
namespace Go.Proofs.Ytigacobphgeeaaa
open Go.RowKit Go.Shelf Lev

set_option maxRecDepth 100000 in
theorem number_any (b : Nat) (hb : b < 18446744073709551616) (w : World) :
    Calls Try.prog 35 #[.float .f64 b] w fun e w' => e = .returned (.bool (!wildS b)) ∧ w = w' := by
  have hsp := fun W => rsplit_any b hb W
  rcases kind_cases b with h | ⟨h, h2, _⟩ | h | h
  · rw [splitV_0 h] at hsp
    have hw : wildS b = false := by unfold wildS; rw [decide_eq_false_iff_not]; have := kindS_0 h; have := INF_eq; omega
    rw [hw]
    have HSP := Lib.hid hsp
    clear hsp h hw
    go_enter Try.func35, Try.ntmps35
    go_wp2_with ((go_at_call 42; refine (HSP.out _).mono ?_; rintro e w' ⟨rfl, rfl⟩))
    go_ret
    exact ⟨rfl, rfl⟩
  · rw [splitV_1 h] at hsp
    have hw : wildS b = false := by unfold wildS; rw [decide_eq_false_iff_not]; unfold fin at h2; omega
    rw [hw]
    have HSP := Lib.hid hsp
    clear hsp h hw h2
    go_enter Try.func35, Try.ntmps35
    go_wp2_with ((go_at_call 42; refine (HSP.out _).mono ?_; rintro e w' ⟨rfl, rfl⟩))
    go_ret
    exact ⟨rfl, rfl⟩
  · rw [splitV_2 h] at hsp
    have hw : wildS b = true := by unfold wildS; rw [decide_eq_true_eq]; exact kindS_2 (by omega)
    rw [hw]
    have HSP := Lib.hid hsp
    clear hsp h hw
    go_enter Try.func35, Try.ntmps35
    go_wp2_with ((go_at_call 42; refine (HSP.out _).mono ?_; rintro e w' ⟨rfl, rfl⟩))
    go_ret
    exact ⟨rfl, rfl⟩
  · rw [splitV_3 h] at hsp
    have hw : wildS b = true := by unfold wildS; rw [decide_eq_true_eq]; exact kindS_2 (by omega)
    rw [hw]
    have HSP := Lib.hid hsp
    clear hsp h hw
    go_enter Try.func35, Try.ntmps35
    go_wp2_with ((go_at_call 42; refine (HSP.out _).mono ?_; rintro e w' ⟨rfl, rfl⟩))
    go_ret
    exact ⟨rfl, rfl⟩

/-- A square of floats in longer rows, to read. -/
structure GMat (w : World) (B n m : Nat) (b o k : Nat → Nat) (M : Nat → Nat → Nat) : Prop where
  out : ∀ i, i < n → w.cell? ⟨B, i, none⟩ = some (.slice (some ⟨b i, o i, none⟩) m (k i))
  row : ∀ i j, i < n → j < n → w.cell? ⟨b i, o i + j, none⟩ = some (.float .f64 (M i j))
  l64 : ∀ i j, M i j < 18446744073709551616
  big : n ≤ m
theorem RMat.g {w : World} {B n : Nat} {b o k : Nat → Nat} {M : Nat → Nat → Nat} (h : RMat w B n b o k M) : GMat w B n n b o k M := ⟨h.out, h.row, h.l64, Nat.le_refl _⟩

attribute [local go_sem] run_store_float order_lt order_gt order_eq order_ne

set_option maxRecDepth 100000 in
set_option maxHeartbeats 2000000 in
theorem sing_any (f : Fct) (A : Option Addr) (c : Nat) (w : World) (hx : SlArg w A f.xs c) (hok : f.ok = true) (n : Nat) (hn : f.C = (n : Int)) :
    Calls Try.prog 32 #[facV f.C A f.xs.length c f.R f.T] w fun e w' => e = .returned (.bool (singB f n)) ∧ Below w.heap.size w w' := by
  have hn6 : n ≤ 6 := by have := ok_len hok; omega
  have hgt := fun (W : World) (i : Nat) h => rget_any f A c (i : Int) (i : Int) W h
  have k0 := ((Keep.start w).more hx).alloc #[.int .i64 f.C, .slice A f.xs.length c, .int .i64 f.R, .int .i64 f.T] 24
  unfold facV at hgt ⊢
  rw [hn] at hgt k0 ⊢
  have HGT := Lib.hid (fun (W : World) (i : Nat) h => show Calls Try.prog 23 #[.agg #[.int .i64 (n : Int), .slice A f.xs.length c, .int .i64 f.R, .int .i64 f.T], .int .i64 (i : Int), .int .i64 (i : Int)] W fun e w' => e = .returned (.float .f64 (gS f i i)) ∧ Below W.heap.size W w' from hgt W i h)
  have K0 := Lib.hid k0
  clear hx hok hn hgt k0
  go_enter Try.func32, Try.ntmps32
  go_wp2_with fail
  go_loopw [3] (fun iv wr => ∃ q : Nat, q ≤ n ∧ iv = .int .i64 (q : Int) ∧ Keep w wr [(w.heap.size, 24, #[.int .i64 (n : Int), .slice A f.xs.length c, .int .i64 f.R, .int .i64 f.T])] [(A, f.xs, c)] ∧ ∀ i, i < q → rg (gS f i i) ≠ 0) (fun iv _ => n - (intOf iv).toNat)
  case atStart => exact ⟨0, Nat.zero_le _, rfl, K0.out, fun i h => absurd h (Nat.not_lt_zero _)⟩
  case round =>
    obtain ⟨q, hq, rfl, hK, hnz⟩ := hrel
    have HK := Lib.hid hK; have HNZ := Lib.hid hnz
    obtain ⟨r0, r1, r2, r3⟩ := (hK.box (.head _)).c4
    by_cases hlt : (q : Int) < (n : Int)
    · have hqn : q < n := by omega
      have H1 := Lib.hid (HGT.out wr q (hK.arg (.head _)))
      have hfz := feq_zero (gS f q q)
      clear hK hnz
      go_wp2_with fail
      refine H1.out.mono ?_
      rintro e w1 ⟨rfl, hb⟩
      have K1 := Lib.hid (HK.out.call hb)
      clear hb
      by_cases hz : rg (gS f q q) = 0
      · rw [decide_eq_true hz] at hfz
        have HS := Lib.hid (singB_at (f := f) (n := n) (by omega) hz)
        clear hz
        go_wp2
        go_ret
        exact ⟨by rw [HS.out]; rfl, K1.out.below⟩
      · rw [decide_eq_false hz] at hfz
        have HZ := Lib.hid hz
        clear hz
        go_wp2
        go_roundw
        case rel => exact ⟨q + 1, by omega, by go_num, K1.out, fun i hi => by
          by_cases e : i = q
          · subst e; exact HZ.out
          · exact HNZ.out i (by omega)⟩
        case measure => simp [intOf]; omega
    · have HS := Lib.hid (singB_no (f := f) (n := n) (fun i hi => hnz i (by omega)))
      clear hK hnz
      go_wp2
      go_ret
      exact ⟨by rw [HS.out]; rfl, HK.out.below⟩

set_option maxRecDepth 100000 in
set_option maxHeartbeats 4000000 in
theorem one18_any (g : Nat → Nat → Nat) (n m : Nat) (hn : n ≤ 6) (hm7 : m ≤ 7) (B c : Nat) (b o k : Nat → Nat) (M : Nat → Nat → Nat) (w : World) (hm : GMat w B n m b o k M) (hg : ∀ i j, i ≤ j → j < n → M i j = g i j) (hf : ∀ i j, i ≤ j → j < n → rg (g i j) < INF) :
    Calls Try.prog 39 #[.slice (some ⟨B, 0, none⟩) n c] w fun e w' => e = .returned (.float .f64 (oneS g n)) ∧ w = w' := by
  have hbig := hm.big
  have HM := Lib.hid hm; have HG := Lib.hid hg; have HF := Lib.hid hf
  unfold oneS
  clear hm hg hf
  go_enter Try.func39, Try.ntmps39
  go_wp2_with fail
  go_loopw [3, 4] (fun mv jv wr => ∃ j : Nat, j ≤ n ∧ jv = .int .i64 (j : Int) ∧ mv = .float .f64 (maxL (colS g) j) ∧ wr = w) (fun _ jv _ => n - (intOf jv).toNat)
  case atStart => exact ⟨0, Nat.zero_le _, rfl, rfl, rfl⟩
  case round =>
    obtain ⟨j, hj, rfl, rfl, rfl⟩ := hrel
    by_cases hlt : (j : Int) < (n : Int)
    · have hjn : j < n := by omega
      have hs : maxL (colS g) (j + 1) = if flt (maxL (colS g) j) (colS g j) = true then colS g j else maxL (colS g) j := rfl
      have HS := Lib.hid hs
      generalize maxL (colS g) j = mx at *
      clear hs
      go_wp2_with fail
      go_loopw [5, 6] (fun sv iv wq => ∃ q : Nat, q ≤ j + 1 ∧ iv = .int .i64 (q : Int) ∧ sv = .float .f64 (colL g j q) ∧ wq = wr) (fun _ iv _ => j + 1 - (intOf iv).toNat)
      case atStart => exact ⟨0, Nat.zero_le _, rfl, rfl, rfl⟩
      case round =>
        obtain ⟨q, hq, rfl, rfl, rfl⟩ := hrel
        by_cases hle : (q : Int) ≤ (j : Int)
        · have hqn : q < n := by omega
          have hjm : (j : Int) < (m : Int) := by omega
          have a0 := HM.out.out q hqn
          have a1 := HM.out.row q j hqn hjn
          have hqg := HG.out q j (by omega) hjn
          rw [hqg] at a1
          have hl := HM.out.l64 q j
          rw [hqg] at hl
          have hadd : floatBits .add .f64 (colL g j q) (rg (g q j)) = some (colL g j (q + 1)) := colL_add (fun i hi => HF.out i j (by omega) hjn)
          have HAB := Lib.hid (fun W => abs_any (g q j) hl W)
          have hrun := fun w => run_float_arith (P := Try.prog) w .add 29 .f64 _ _ _ hadd
          generalize hs1 : colL g j (q + 1) = s1 at *
          generalize colL g j q = s0 at *
          generalize rg (g q j) = r at *
          have HS1 := Lib.hid hs1
          clear hqg hl hs1 hadd
          go_wp2_with (go_at_call 62; refine (HAB.out _).mono ?_; rintro e w' ⟨rfl, rfl⟩)
          go_roundw
          case rel => exact ⟨q + 1, by omega, by go_num, by rw [HS1.out], trivial⟩
          case measure => simp [intOf]; omega
        · obtain rfl : q = j + 1 := by omega
          have hcs : colL g j (j + 1) = colS g j := rfl
          rw [hcs]
          clear hcs
          cases hfl : flt mx (colS g j)
          · have H2 := Lib.hid (show maxL (colS g) (j + 1) = mx by rw [HS.out, hfl]; rfl)
            generalize colS g j = cs at *
            go_wp2
            go_roundw
            case rel => exact ⟨j + 1, by omega, by go_num, by rw [H2.out], trivial⟩
            case measure => simp [intOf]; omega
          · have H2 := Lib.hid (show maxL (colS g) (j + 1) = colS g j by rw [HS.out, hfl]; rfl)
            generalize colS g j = cs at *
            go_wp2
            go_roundw
            case rel => exact ⟨j + 1, by omega, by go_num, by rw [H2.out], trivial⟩
            case measure => simp [intOf]; omega
    · have hje : j = n := by omega
      rw [hje]
      go_wp2
      go_ret
      exact ⟨rfl, rfl⟩

/-- Rows that are made one behind the other. -/
structure RowsL (w : World) (base : Nat) (v : Value) (m : Nat) (row : Nat → List Nat) (rs : List (Nat × Nat × Nat)) : Prop where
  own : w.ownsRow base 22 1 v rs.length (rs.map (fun r => .slice (some ⟨r.1, r.2.1, none⟩) m r.2.2))
  ar : ∀ i (h : i < rs.length), SlArg w (some ⟨rs[i].1, rs[i].2.1, none⟩) (row i) rs[i].2.2 ∧ (row i).length = m
  far : ∀ r ∈ rs, ∀ g, v.ownBlock = some g → r.1 ≠ g
theorem RowsL.nil (w : World) (base m : Nat) (row : Nat → List Nat) : RowsL w base (.slice none 0 0) m row [] := ⟨⟨rfl, .inl ⟨rfl, rfl⟩⟩, fun i h => absurd h (Nat.not_lt_zero _), fun r h => absurd h List.not_mem_nil⟩
theorem RowsL.call {w w' : World} {base m : Nat} {v : Value} {row : Nat → List Nat} {rs : List (Nat × Nat × Nat)} (h : RowsL w base v m row rs) (hb : Below w.heap.size w w') : RowsL w' base v m row rs :=
  ⟨own_below h.own hb, fun i hi => ⟨(h.ar i hi).1.below hb, (h.ar i hi).2⟩, h.far⟩
theorem RowsL.snoc {w w' : World} {base m q g cap : Nat} {v : Value} {row : Nat → List Nat} {rs : List (Nat × Nat × Nat)} (h : RowsL w base v m row rs) (hq : rs.length = q) (hm : 0 < m) {r : Nat × Nat × Nat} (hr : SlArg w (some ⟨r.1, r.2.1, none⟩) (row q) r.2.2) (hl : (row q).length = m) (hf : ∀ g, v.ownBlock = some g → r.1 ≠ g)
    (hown : w'.ownsRow base 22 1 (.slice (some ⟨g, 0, none⟩) (q + 1) cap) (q + 1) (rs.map (fun r => .slice (some ⟨r.1, r.2.1, none⟩) m r.2.2) ++ [.slice (some ⟨r.1, r.2.1, none⟩) m r.2.2])) (hgr : w.grownBy w' v.ownBlock) (hat : v.ownBlock = some g ∨ g = w.heap.size) :
    RowsL w' base (.slice (some ⟨g, 0, none⟩) (q + 1) cap) m row (rs ++ [r]) := by
  have hlen : (rs ++ [r]).length = q + 1 := by rw [List.length_append, hq]; rfl
  have key : ∀ i (hi : i < (rs ++ [r]).length), SlArg w (some ⟨(rs ++ [r])[i].1, (rs ++ [r])[i].2.1, none⟩) (row i) (rs ++ [r])[i].2.2 ∧ (row i).length = m ∧ ∀ g, v.ownBlock = some g → (rs ++ [r])[i].1 ≠ g := fun i hi => by
    by_cases h1 : i < rs.length
    · rw [List.getElem_append_left h1]
      exact ⟨(h.ar i h1).1, (h.ar i h1).2, fun g hg => h.far _ (List.getElem_mem h1) g hg⟩
    · have e : i = q := by omega
      subst e
      rw [List.getElem_append_right (by omega)]
      simp only [hq, Nat.sub_self, List.getElem_cons_zero]
      exact ⟨hr, hl, hf⟩
  refine ⟨by rw [List.map_append, hlen]; exact hown, fun i hi => ?_, fun x hx g' hg' => ?_⟩
  · obtain ⟨h1, h2, h3⟩ := key i hi
    exact ⟨h1.grown hgr (fun _ a ha e => by cases ha; exact h3 _ e.symm rfl), h2⟩
  · obtain rfl : g = g' := by simpa [Value.ownBlock] using hg'
    obtain ⟨i, hi, rfl⟩ := List.mem_iff_getElem.1 hx
    obtain ⟨h1, h2, h3⟩ := key i hi
    rcases hat with e | e
    · exact h3 _ e
    · have := h1.blk (by omega) _ rfl
      have this : (rs ++ [r])[i].1 < w.heap.size := this
      omega
theorem RowsL.mat {w : World} {base n m : Nat} {v : Value} {row : Nat → List Nat} {rs : List (Nat × Nat × Nat)} {M : Nat → Nat → Nat} (h : RowsL w base v m row rs) (hl : rs.length = n) (hn : 1 ≤ n) (hm : n ≤ m) (hM : ∀ i j, i < n → j < n → (row i)[j]?.getD 0 = M i j) (h64 : ∀ i j, M i j < 18446744073709551616) :
    ∃ B c, v = .slice (some ⟨B, 0, none⟩) n c ∧ ∃ b o k, GMat w B n m b o k M := by
  rcases h.own.2 with ⟨_, h0⟩ | ⟨g, cap, cur, e, h2, h3, h4, h5, h6, h7⟩
  · omega
  · have hB : Bk w g 22 cur := h3
    have hat : ∀ i (hi : i < n), rs[i]? = some (rs[i]'(by omega)) := fun i hi => List.getElem?_eq_getElem (by omega)
    refine ⟨g, cap, by rw [e, hl], fun i => (rs[i]?.getD (0, 0, 0)).1, fun i => (rs[i]?.getD (0, 0, 0)).2.1, fun i => (rs[i]?.getD (0, 0, 0)).2.2, ⟨fun i hi => ?_, fun i j hi hj => ?_, h64, hm⟩⟩
    · rw [hB.cell i]
      have h8 : (cur.toList.take (rs.length * 1))[i]? = (rs.map (fun r => Value.slice (some ⟨r.1, r.2.1, none⟩) m r.2.2))[i]? := by rw [h7]
      rw [List.getElem?_take_of_lt (by omega), Array.getElem?_toList, List.getElem?_map, hat i hi] at h8
      rw [h8, hat i hi]; rfl
    · rw [hat i hi]
      obtain ⟨h8, h9⟩ := h.ar i (by omega)
      obtain ⟨b, o, e2, _, hc⟩ := h8.reads.2 (by omega)
      cases e2
      show w.cell? ⟨rs[i].1, rs[i].2.1 + j, none⟩ = _
      rw [hc j (by omega), hM i j hi hj]

set_option maxRecDepth 100000 in
set_option maxHeartbeats 4000000 in
theorem square18_any (f : Fct) (A : Option Addr) (c : Nat) (w : World) (hx : SlArg w A f.xs c) (hok : f.ok = true) (n : Nat) (hn : f.C = (n : Int)) :
    Calls Try.prog 40 #[facV f.C A f.xs.length c f.R f.T] w fun e w' => (∃ B, (∃ cB, e = .returned (.slice (some ⟨B, 0, none⟩) n cB)) ∧ ∃ b o k, GMat w' B n (n + 1) b o k (gS f)) ∧ Below w.heap.size w w' := by
  have hn6 : 1 ≤ n ∧ n ≤ 6 := by have := ok_len hok; omega
  have hh : ∀ k : Nat, k ≤ n → hasS f k = true := fun k hk => hasS_iff.2 ⟨hok, by omega, by omega⟩
  have hlen : ∀ k : Nat, k ≤ n → (lineS f k).length = n + 1 := fun k hk => by rw [lineS_length (hh k hk)]; omega
  have hget : ∀ i j : Nat, i < n → j < n → (lineS f (i : Int))[j]?.getD 0 = gS f i j := fun i j hi hj => lineS_get (hh i (by omega)) (by omega)
  have hl64 : ∀ i j, gS f i j < 18446744073709551616 := fun i j : Nat => getS_lt hx.reads.1 (i : Int) (j : Int)
  have hln := fun (k : Nat) W hW => rline_any f A c (k : Int) W hW
  obtain ⟨i0, hi, hz0, hz1, hz2⟩ := info_parts info_f64s
  have HI := Lib.hid hi; have HZ0 := Lib.hid hz0; have HZ1 := Lib.hid hz1; have HZ2 := Lib.hid hz2
  have k0 := (((Keep.start w).more hx).alloc #[.int .i64 f.C, .slice A f.xs.length c, .int .i64 f.R, .int .i64 f.T] 24)
  obtain ⟨W0, hW0⟩ : ∃ W0, W0 = w.alloc (.cells #[.int .i64 f.C, .slice A f.xs.length c, .int .i64 f.R, .int .i64 f.T] 24) := ⟨_, rfl⟩
  rw [← hW0] at k0
  unfold facV at hln ⊢
  rw [hn] at hln k0 hW0 ⊢
  have K0 := Lib.hid k0; have HW0 := Lib.hid hW0
  have HLEN := Lib.hid hlen; have HGET := Lib.hid hget; have HL64 := Lib.hid hl64; have HLN := Lib.hid hln
  obtain ⟨hn1, hn2⟩ := hn6
  obtain ⟨r0, r1, r2, r3⟩ := (k0.box (.head _)).c4
  rw [hW0] at r0 r1 r2 r3
  clear hx hok hn hh hlen hget hl64 hln k0 hW0 hi hz0 hz1 hz2
  go_enter Try.func40, Try.ntmps40
  go_wp2_with fail
  rw [← HW0.out] at r0 r1 r2 r3 ⊢
  go_loopw [3, 4] (fun v iv wr => ∃ (q : Nat) (rs : List (Nat × Nat × Nat)), q ≤ n ∧ iv = .int .i64 (q : Int) ∧ RowsL wr W0.heap.size v (n + 1) (fun i => lineS f (i : Int)) rs ∧ rs.length = q ∧ Below W0.heap.size W0 wr) (fun _ iv _ => n - (intOf iv).toNat)
  case atStart => exact ⟨0, [], Nat.zero_le _, rfl, RowsL.nil _ _ _ _, rfl, Below.refl _ _⟩
  case round =>
    obtain ⟨q, rs, hq, rfl, hR, hl, hbl⟩ := hrel
    clear r0 r1 r2 r3
    have hK := K0.out.call hbl
    obtain ⟨r0, r1, r2, r3⟩ := (hK.box (.head _)).c4
    have HR := Lib.hid hR; have HL := Lib.hid hl; have HBL := Lib.hid hbl; have HSZ := Lib.hid hbl.size
    by_cases hlt : (q : Int) < (n : Int)
    · have H1 := Lib.hid (HLN.out q wr (hK.arg (.head _)))
      have hlq := HLEN.out q (by omega)
      have HLQ := Lib.hid hlq
      clear hR hl hbl hK hlq
      go_wp2_with fail
      refine H1.out.mono ?_
      rintro e w1 ⟨⟨v, rfl, A3, c3, rfl, hs3, hA3⟩, hb⟩
      obtain ⟨b3, o3, hAe, hb3l, _⟩ := hs3.reads.2 (by have := HLQ.out; omega)
      have hlo : wr.heap.size ≤ b3 := hA3 _ hAe
      subst hAe
      rw [HLQ.out]
      have HS3 := Lib.hid hs3; have HB := Lib.hid hb
      have hf9 : ∀ g, u3.ownBlock = some g → b3 ≠ g := fun g hg => by
        obtain ⟨cs, h6⟩ := own_blk HR.out.own g hg
        have := h6.lt
        omega
      have HF9 := Lib.hid hf9
      have hR1 := (HR.out.call hb).call ((Below.refl w1.heap.size w1).alloc (Nat.le_refl _) (.cells #[.slice (some ⟨b3, o3, none⟩) (n + 1) c3] 22))
      have HR1 := Lib.hid hR1
      have hS1 : W0.heap.size ≤ w1.heap.size := Nat.le_trans HSZ.out hb.size
      have hq6 : q ≤ 6 := by omega
      have HS1 := Lib.hid hS1
      clear hs3 hA3 hb hlo hb3l hf9 hR1 r0 r1 r2 r3
      go_wp2_with (at_builtin; go_loud (refine wpList_append_lies _ (by rfl) _ _ 51 (by rfl) W0.heap.size 22 i0 (.slice none 0 0) 1 24 Try.underlying51 HI.out HZ0.out HZ1.out HZ2.out rfl (by decide) _ q _ (by rfl) (by have := HR1.out.own; rw [HL.out] at this; exact this) ⟨w1.heap.size, 0, none⟩ 1 1 [.slice (some ⟨b3, o3, none⟩) (n + 1) c3] (by rfl) (by rfl) (World.news_of_block (heap_alloc_new _ _)) (fun u hu => by rw [List.mem_singleton.1 hu]; rfl) (by decide) (by unfold maxLen; omega) (by omega) (by rw [World.size_alloc]; omega) _ rfl ?_); intro g cap w' hown' hgrow hat hglt)
      go_roundw
      case rel => exact ⟨q + 1, rs ++ [(b3, o3, c3)], by omega, by go_num, HR1.out.snoc HL.out (by omega) (r := (b3, o3, c3)) (HS3.out.below ((Below.refl _ _).alloc (Nat.le_refl _) _)) HLQ.out HF9.out hown' hgrow hat, by rw [List.length_append, HL.out]; rfl, (((Below.chain HBL.out HB.out).alloc HS1.out _)).grown hgrow (by rw [World.size_alloc]; omega) (own_lo HR.out.own)⟩
      case measure => simp [intOf]; omega
    · have hqe : rs.length = n := by omega
      obtain ⟨B, cB, rfl, b, o, k, hm⟩ := hR.mat (M := gS f) hqe hn1 (by omega) HGET.out HL64.out
      have HM := Lib.hid hm
      clear hR hl hK hm hbl hqe
      go_wp2
      go_ret
      exact ⟨⟨B, ⟨cB, rfl⟩, b, o, k, HM.out⟩, Below.chain K0.out.below HBL.out⟩
end Go.Proofs.Ytigacobphgeeaaa
