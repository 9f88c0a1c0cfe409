/- The contract of tri.Check. -/
import Derived.Test.YtkhnoffhbfcgfaaCb
import Derived.Shelf.Abstract
import Derived.RangeFuncCalls
namespace Go.Proofs.Ytkhnoffhbfcgfaa
open Go.RowKit Go.Shelf Lev

attribute [local go_sem] Oper.semAt_some

theorem ret_t {a b : Bool} (h : a = b) : Ending.returned (.bool a) = Ending.returned (.bool b) := by rw [h]

set_option maxRecDepth 100000 in
set_option maxHeartbeats 1000000 in
theorem check_bad (C : Int) (A : Option Addr) (n c : Nat) (R T : Int) (w : World) (h : headOk C n R T = false) (hn63 : n ≤ 9223372036854775807) :
    Calls Try.prog 31 #[facV C A n c R T] w fun e w' => e = .returned (.bool false) ∧ Below w.heap.size w w' := by
  have hs : (sizeI C = 0) ∨ (1 ≤ C ∧ C ≤ 6 ∧ sizeI C ≠ 0) := by
    by_cases h1 : 1 ≤ C ∧ C ≤ 6
    · right
      refine ⟨h1.1, h1.2, ?_⟩
      rw [size_st (N := (C + 1).toNat) h1.1 h1.2 (by omega)]
      have := st_all (C + 1).toNat
      have h3 : 2 ≤ (C + 1).toNat := by omega
      have := Nat.mul_le_mul h3 h3
      omega
    · left; unfold sizeI; rw [if_pos (by omega)]
  unfold headOk at h
  rw [decide_eq_false_iff_not] at h
  unfold facV
  rcases hs with hs | ⟨h1, h6, hs⟩
  · have d1 : (sizeI C == 0) = true := by rw [beq_iff_eq]; exact hs
    have KS := Lib.hid hs; clear hs h
    go_enter Try.func31, Try.ntmps31
    go_wp2_with (go_at_call 55; refine (size_any _ _).mono ?_; rintro e w' ⟨rfl, rfl⟩)
    go_returns
    exact ⟨rfl, by go_grown⟩
  · have d1 : (sizeI C == 0) = false := by rw [beq_eq_false_iff_ne]; exact hs
    by_cases h2 : (n : Int) = sizeI C
    · have d2 : ((n : Int) != sizeI C) = false := by rw [bne_eq_false_iff_eq]; exact h2
      have d3 : R < 0 ∨ (0 ≤ R ∧ 200 < R) ∨ (0 ≤ R ∧ R ≤ 200 ∧ T < 0) ∨ (0 ≤ R ∧ R ≤ 200 ∧ 0 ≤ T ∧ 4096 < T) := by omega
      have KH := Lib.hid h2; have KS := Lib.hid hs; clear hs h h2
      rcases d3 with d3 | ⟨d3, d4⟩ | ⟨d3, d4, d5⟩ | ⟨d3, d4, d5, d6⟩
      all_goals
        go_enter Try.func31, Try.ntmps31
        go_wp2_with (go_at_call 55; refine (size_any _ _).mono ?_; rintro e w' ⟨rfl, rfl⟩)
        go_returns
        exact ⟨rfl, by go_grown⟩
    · have d2 : ((n : Int) != sizeI C) = true := by rw [bne_iff_ne]; exact h2
      have KH := Lib.hid h2; have KS := Lib.hid hs; clear hs h h2
      go_enter Try.func31, Try.ntmps31
      go_wp2_with (go_at_call 55; refine (size_any _ _).mono ?_; rintro e w' ⟨rfl, rfl⟩)
      go_returns
      exact ⟨rfl, by go_grown⟩

theorem Boxed4.new (w : World) (t : TypeId) (v0 v1 v2 v3 : Value) : (w.alloc (.cells #[v0, v1, v2, v3] t)).cell? ⟨w.heap.size, 0, none⟩ = some v0 ∧ (w.alloc (.cells #[v0, v1, v2, v3] t)).cell? ⟨w.heap.size, 1, none⟩ = some v1 := by
  constructor <;> simp [go_sem]

set_option maxRecDepth 100000 in
set_option maxHeartbeats 2000000 in
theorem check_rows (C : Int) (N : Nat) (hN : (N : Int) = C + 1) (b off : Nat) (xs : List Nat) (c : Nat) (R T : Int) (w : World) (hb : b < w.heap.size) (hlt : ∀ x ∈ xs, x < 18446744073709551616)
    (hcell : ∀ j, j < xs.length → w.cell? ⟨b, off + j, none⟩ = some (.float .f64 (xs[j]?.getD 0))) (hcap : xs.length ≤ c) (hc63 : c ≤ 9223372036854775807) (h1 : 1 ≤ C) (h6 : C ≤ 6) (hsz : (xs.length : Int) = sizeI C)
    (hR0 : 0 ≤ R) (hR1 : R ≤ 200) (hT0 : 0 ≤ T) (hT1 : T ≤ 4096) :
    Calls Try.prog 31 #[facV C (some ⟨b, off, none⟩) xs.length c R T] w fun e w' => e = .returned (.bool (rowsOk N xs)) ∧ Below w.heap.size w w' := by
  have hlen : st N N = xs.length := by have := size_st h1 h6 hN; omega
  have d1 : (sizeI C == 0) = false := by
    rw [beq_eq_false_iff_ne, ← hsz]
    have := st_all N
    have h3 : 2 ≤ N := by omega
    have := Nat.mul_le_mul h3 h3
    omega
  have d2 : ((xs.length : Int) != sizeI C) = false := by rw [bne_eq_false_iff_eq]; exact hsz
  have hs : xs.length ≤ 28 := by
    have := st_all N
    have h3 : N ≤ 7 := by omega
    have := Nat.mul_le_mul h3 h3
    omega
  have e1 : decide (R < 0) = false := decide_eq_false (by omega)
  have e2 : decide (200 < R) = false := decide_eq_false (by omega)
  have e3 : decide (T < 0) = false := decide_eq_false (by omega)
  have e4 : decide (4096 < T) = false := decide_eq_false (by omega)
  have HSZ := Lib.hid hsz; clear hsz
  have HL := Lib.hid hlen
  have HN := Lib.hid hN
  have HC := Lib.hid hcell
  have HLT := Lib.hid hlt
  clear hlen hcell hlt hN
  unfold facV
  refine (callsIn_wide (n := 5)).1 ?_
  refine callsIn_of_wp_marks Try.func31 rfl trivial ?_ rfl
  simp only [Try.ntmps31, List.size_toArray, List.length_cons, List.length_nil, Nat.reduceAdd, Nat.reduceSub, Array.replicate_succ, Array.replicate_zero, List.push_toArray, List.append_toArray, List.nil_append, List.cons_append]
  gi_wp2_with (first
    | (refine ⟨trivial, ?_⟩; gi_at_call 55; refine (callsIn_wide.2 (size_any _ _)).mono ?_; rintro e w' ⟨rfl, rfl⟩)
    | (refine ⟨trivial, ?_⟩; gi_at_call 56; refine (rows_in Fence.wide _ trivial rfl _ _ _ _ _ _ _).mono ?_; rintro e w' ⟨rfl, rfl⟩))
  have bF := Boxed4.new ((w.alloc (.cells #[.int .i64 C, .slice (some ⟨b, off, none⟩) xs.length c, .int .i64 R, .int .i64 T] 24)).alloc (.cells #[.bool false] 4)) 24 (.int .i64 C) (.slice (some ⟨b, off, none⟩) xs.length c) (.int .i64 R) (.int .i64 T)
  have bR := Boxed.new (w.alloc (.cells #[.int .i64 C, .slice (some ⟨b, off, none⟩) xs.length c, .int .i64 R, .int .i64 T] 24)) 4 (.bool false)
  simp only [World.size_alloc] at bF bR
  have hB0 : Below w.heap.size w (((w.alloc (.cells #[.int .i64 C, .slice (some ⟨b, off, none⟩) xs.length c, .int .i64 R, .int .i64 T] 24)).alloc (.cells #[.bool false] 4)).alloc (.cells #[.int .i64 C, .slice (some ⟨b, off, none⟩) xs.length c, .int .i64 R, .int .i64 T] 24)) := (((Below.refl _ w).alloc (Nat.le_refl _) _).alloc (by simp) _).alloc (by simp; omega) _
  refine wpIn_rangeFunc_ownG rfl (by decide) (gf := 73) (lb := #[.pointer (some ⟨w.heap.size + 1 + 1, 0, none⟩)]) rfl trivial (enters_of Try.func73 (by kernel_rfl) rfl)
    (rows_stops Fence.wide 4 trivial rfl (by decide) (w.heap.size + 1 + 1) w.heap.size b off c N xs.length (by have := HN.out; omega) HL.out hcap hc63 _ (by simp) (by rw [bF.1]; simp; have := HN.out; omega) bF.2) belowK_t (belowK_b (by simp; omega)) (Below.refl _ _) (fun _ => rfl)
    (fun pre W => ((∀ x ∈ pre, rowOk N xs x.1 = true) ∧ W.cell? ⟨w.heap.size + 1, 0, none⟩ = some (.bool false) ∧ W.frozen? ⟨w.heap.size + 1, 0, none⟩ = false) ∧ Below w.heap.size w W)
    (fun c' pre W => (c' = .ret ∧ (∃ x ∈ pre, rowOk N xs x.1 = false) ∧ W.cell? ⟨w.heap.size + 1, 0, none⟩ = some (.bool false)) ∧ Below w.heap.size w W)
    (OwnFrom.and (Own.from (fun s A B row hs hg hr => ⟨hs.1, cell_kept hs.2.1 hg hr, (frozen_kept hs.2.1 hg hr).trans hs.2.2⟩) _) (ownFrom_below (Nat.le_refl _) (by simp; omega)))
    (fun c' => OwnFrom.and (Own.from (fun s A B row hs hg hr => ⟨hs.1, hs.2.1, cell_kept hs.2.2 hg hr⟩) _) (ownFrom_below (Nat.le_refl _) (by simp; omega)))
    ⟨⟨by simp, (bR.alloc _).cell, (bR.alloc _).frozen⟩, hB0⟩
    (fun x => { tmps := #[.agg #[.int .i64 C, .slice (some ⟨b, off, none⟩) xs.length c, .int .i64 R, .int .i64 T], .pointer (some ⟨w.heap.size, 0, none⟩), .pointer (some ⟨w.heap.size + 1, 0, none⟩), .int .i64 (sizeI C), .slice (some ⟨b, off + st N x.1, none⟩) (N - x.1) (c - st N x.1), .pointer (some ⟨w.heap.size, 0, none⟩), .int .i64 C, .int .i64 (sizeI C), .int .i64 (sizeI C), .bool false, .bool false, .pointer (some ⟨w.heap.size, 1, none⟩), .slice (some ⟨b, off, none⟩) xs.length c, .int .i64 (xs.length : Int), .int .i64 (sizeI C), .bool false, .bool false, .bool false, .pointer (some ⟨w.heap.size, 2, none⟩), .int .i64 R, .bool false, .bool false, .bool false, .pointer (some ⟨w.heap.size, 2, none⟩), .int .i64 R, .bool false, .bool false, .bool false, .pointer (some ⟨w.heap.size, 3, none⟩), .int .i64 T, .bool false, .bool false, .bool false, .pointer (some ⟨w.heap.size, 3, none⟩), .int .i64 T, .bool false, .bool false, .agg #[.int .i64 C, .slice (some ⟨b, off, none⟩) xs.length c, .int .i64 R, .int .i64 T], .func (.func 73) #[] #[.pointer (some ⟨w.heap.size + 1 + 1, 0, none⟩)], .slice (some ⟨b, off + st N x.1, none⟩) (N - x.1) (c - st N x.1), undef, undef, undef, undef, undef, undef, undef, undef], defers := [] }) ?assign ?body ?done ?stop
  case assign =>
    intro l x W K hK
    gi_wp2
    exact hK
  case body =>
    rintro l pre ⟨k, hk⟩ W ⟨⟨hp, hcr, hfr⟩, hB⟩ _
    have hs1 := st_succ N k
    have hs2 := st_le (N := N) (k := k + 1) (m := N) (by omega)
    have hl := HL.out
    have hc0 : W.cell? ⟨b, off + st N k, none⟩ = some (.float .f64 (xs[st N k]?.getD 0)) := (hB.cell (p := ⟨b, off + st N k, none⟩) hb).trans (HC.out _ (by omega))
    have hrl : ((xs.drop (st N k)).take (N - k)).length = N - k := by rw [List.length_take, List.length_drop]; omega
    have hrow : FlR W.heap.size W (some ⟨b, off + st N k, none⟩) ((xs.drop (st N k)).take (N - k)) := by
      refine ⟨fun y hy => HLT.out y (List.mem_of_mem_drop (List.mem_of_mem_take hy)), fun _ => ⟨b, off + st N k, rfl, Nat.lt_of_lt_of_le hb hB.size, fun j hj => ?_⟩⟩
      rw [hrl] at hj
      have h3 := (hB.cell (p := ⟨b, off + (st N k + j), none⟩) hb).trans (HC.out (st N k + j) (by omega))
      have h4 : ((xs.drop (st N k)).take (N - k))[j]? = xs[st N k + j]? := by
        rw [List.getElem?_take_of_lt hj, List.getElem?_drop]
      rw [h4, Nat.add_assoc]; exact h3
    have hcon := fun c' => containsLarge (some ⟨b, off + st N k, none⟩) ((xs.drop (st N k)).take (N - k)) c' W hrow (by rw [hrl]; omega)
    rw [hrl] at hcon
    have HCON := Lib.hid hcon; clear hcon
    have hv : xs[st N k]?.getD 0 < 18446744073709551616 := by
      rw [List.getElem?_eq_getElem (by omega)]; exact HLT.out _ (List.getElem_mem _)
    have hrok : rowOk N xs k = (!sg (xs[st N k]?.getD 0) && ((xs.drop (st N k)).take (N - k)).all small) := rfl
    have hany : ((xs.drop (st N k)).take (N - k)).any (fun x => !small x) = !((xs.drop (st N k)).take (N - k)).all small := by
      rw [Bool.eq_iff_iff]; simp
    have h1k : (0 : Int) < ((N - k : Nat) : Int) := by omega
    have HP := Lib.hid hp; clear hp
    generalize hvv : xs[st N k]?.getD 0 = v at *
    generalize hal : ((xs.drop (st N k)).take (N - k)).all small = al at *
    generalize ((xs.drop (st N k)).take (N - k)).any (fun x => !small x) = an at *
    subst hany
    have HR := Lib.hid hrok
    have HV := Lib.hid hv
    obtain ⟨m, hm⟩ : ∃ m, m = N - k := ⟨_, rfl⟩
    dsimp only
    rw [← hm] at HCON h1k ⊢
    clear hrok hv hvv hal hrl hrow hs1 hs2 hl hm
    cases hsg : sg v
    · rw [hsg] at HR
      cases al
      · skip
        gi_wp2_with (first
          | (refine ⟨trivial, ?_⟩; gi_at_call 57; refine (CallsIn.inRound l (callsIn_wide.2 (signbit_any _ HV.out _))).mono ?_; rintro e w' ⟨rfl, rfl⟩)
          | (refine ⟨trivial, ?_⟩; gi_at_call 58; refine (CallsIn.inRound l (callsIn_wide.2 (HCON.out _))).mono ?_; rintro e w' ⟨rfl, rfl⟩))
        exact ⟨(KeepsOthers.setCell _ _ _).from _, ⟨rfl, ⟨⟨k, hk⟩, List.mem_append.2 (.inr (List.mem_singleton.2 rfl)), HR.out⟩, World.cell?_setCell_same' _ _ _ (by rw [hcr]; rfl)⟩, hB.setCell (p := ⟨w.heap.size + 1, 0, none⟩) (by simp) _⟩
      · skip
        gi_wp2_with (first
          | (refine ⟨trivial, ?_⟩; gi_at_call 57; refine (CallsIn.inRound l (callsIn_wide.2 (signbit_any _ HV.out _))).mono ?_; rintro e w' ⟨rfl, rfl⟩)
          | (refine ⟨trivial, ?_⟩; gi_at_call 58; refine (CallsIn.inRound l (callsIn_wide.2 (HCON.out _))).mono ?_; rintro e w' ⟨rfl, rfl⟩))
        exact ⟨KeepsFrom.refl _ _, Below.refl _ _, ⟨fun y hy => (List.mem_append.1 hy).elim (HP.out y) (fun e => by rw [List.mem_singleton] at e; subst e; exact HR.out), hcr, hfr⟩, hB⟩
    · rw [hsg] at HR
      gi_wp2_with (first
        | (refine ⟨trivial, ?_⟩; gi_at_call 57; refine (CallsIn.inRound l (callsIn_wide.2 (signbit_any _ HV.out _))).mono ?_; rintro e w' ⟨rfl, rfl⟩)
        | (refine ⟨trivial, ?_⟩; gi_at_call 58; refine (CallsIn.inRound l (callsIn_wide.2 (HCON.out _))).mono ?_; rintro e w' ⟨rfl, rfl⟩))
      refine ⟨trivial, ?_⟩
      gi_wp2
      exact ⟨(KeepsOthers.setCell _ _ _).from _, ⟨rfl, ⟨⟨k, hk⟩, List.mem_append.2 (.inr (List.mem_singleton.2 rfl)), HR.out⟩, World.cell?_setCell_same' _ _ _ (by rw [hcr]; rfl)⟩, hB.setCell (p := ⟨w.heap.size + 1, 0, none⟩) (by simp) _⟩
  case done =>
    rintro D ys W hD rfl ⟨⟨hall, hcr, hfr⟩, hB⟩ hK
    have hres : rowsOk N xs = true := by
      unfold rowsOk
      rw [List.all_eq_true]
      intro k hk
      rw [List.mem_range] at hk
      exact hall ⟨k, hk⟩ (List.mem_finRange _)
    have HRES := Lib.hid hres; clear hres hall
    gi_wp2
    have hK' := (KeepsOthers.setCell W ⟨w.heap.size + 1, 0, none⟩ (.bool true)).same D _ hK rfl
    refine ⟨by simp, .inl ⟨_, _, rfl, run_takeDeferred hK', ?_⟩⟩
    have hc5 := cell_kept (World.cell?_setCell_same' W ⟨w.heap.size + 1, 0, none⟩ (.bool true) (by rw [hcr]; rfl)) (grownBy_putObj' _ D (.deferred none)) (fun r e => by cases e; exact ⟨_, hK', rfl⟩)
    refine ⟨.bool true, ?_, by rw [HRES.out], (hB.setCell (p := ⟨w.heap.size + 1, 0, none⟩) (by simp) _).trans (belowK_b (w := w) (Nat.le_refl _) _ D _ _ (by simp at hD; omega) hK' rfl rfl)⟩
    simp [results, Try.f31, go_sem, hc5]
  case stop =>
    rintro D c' pre W hD hpre ⟨⟨rfl, ⟨⟨k, hk⟩, _, hbad⟩, hcr⟩, hB⟩ hK
    have hres : rowsOk N xs = false := by
      unfold rowsOk
      rw [List.all_eq_false]
      exact ⟨k, List.mem_range.2 hk, by rw [hbad]; decide⟩
    have HRES := Lib.hid hres; clear hres hbad
    gi_wp2
    refine ⟨by simp, .inl ⟨_, _, rfl, run_takeDeferred hK, ?_⟩⟩
    have hc5 := cell_kept hcr (grownBy_putObj' _ D (.deferred none)) (fun r e => by cases e; exact ⟨_, hK, rfl⟩)
    refine ⟨.bool false, ?_, by rw [HRES.out], hB.trans (belowK_b (w := w) (Nat.le_refl _) W D _ _ (by simp at hD; omega) hK rfl rfl)⟩
    simp [results, Try.f31, go_sem, hc5]

theorem check_any (C : Int) (A : Option Addr) (xs : List Nat) (c : Nat) (R T : Int) (w : World) (hx : SlArg w A xs c) :
    Calls Try.prog 31 #[facV C A xs.length c R T] w fun e w' => e = .returned (.bool (checkS C xs R T)) ∧ Below w.heap.size w w' := by
  unfold checkS
  cases h : headOk C xs.length R T
  · rw [Bool.false_and]
    exact check_bad C A xs.length c R T w h (Nat.le_trans hx.cap hx.room)
  · rw [Bool.true_and]
    have h' := h
    unfold headOk at h'
    rw [decide_eq_true_eq] at h'
    obtain ⟨h1, h6, hsz, hR0, hR1, hT0, hT1⟩ := h'
    obtain ⟨N, hN⟩ : ∃ N : Nat, (N : Int) = C + 1 := ⟨(C + 1).toNat, by omega⟩
    have hNe : (C + 1).toNat = N := by omega
    have hpos : 0 < xs.length := by
      have := size_st h1 h6 hN
      have := st_all N
      have h3 : 2 ≤ N := by omega
      have := Nat.mul_le_mul h3 h3
      omega
    obtain ⟨b, off, rfl, hb, hc⟩ := hx.reads.2 hpos
    rw [hNe]
    exact check_rows C N hN b off xs c R T w hb hx.reads.1 hc hx.cap hx.room h1 h6 hsz hR0 hR1 hT0 hT1

end Go.Proofs.Ytkhnoffhbfcgfaa
