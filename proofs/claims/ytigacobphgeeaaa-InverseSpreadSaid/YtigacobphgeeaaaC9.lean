/- Plain texts, laid as one. -/
import Derived.Test.YtigacobphgeeaaaM9
import Derived.Deep.QuietTactic
import Derived.BigQuiet
import Derived.RangeFuncBox
import Derived.RangeFuncLeaves
import Derived.OwnWalkIn
import Derived.TacticsInMore
import Derived.LoopNIn
import Derived.LoopIn
import Derived.Shelf.Abstract
import Derived.RangeFuncCalls
import Derived.Test.YtigacobphgeeaaaT9
import Derived.Maps.AppendAt
import Derived.StillTailTactics
import Derived.Laws.CopyOwn
/- Contracts of package tri: Size, large, and of the library's ContainsFunc at large. -/
namespace Go.Proofs.Ytigacobphgeeaaa
open Go.RowKit Lev

attribute [local go_sem] run_fbits run_frombits order_lt order_gt order_eq order_ne flt_or_feq flt_or_feq'

theorem p420 : makeF false 1 420 = 6498694262295625728 := (makeF_pow 1443 (by decide) (by decide)).2
theorem fle_small (b : Nat) : fle (rg b) 6498694262295625728 = small b := by
  have h1 : ord 6498694262295625728 = 6498694262295625728 := by decide
  have h2 : rg 6498694262295625728 = 6498694262295625728 := by decide
  unfold fle small
  rw [ord_rg, h1, h2, rg_rg, decide_eq_decide, INF_eq]; omega
attribute [local go_sem] p420 fle_small

set_option maxHeartbeats 400000 in
theorem large_any (b : Nat) (hb : b < 18446744073709551616) (w : World) :
    Calls Try.prog 68 #[.float .f64 b] w fun e w' => e = .returned (.bool (!small b)) ∧ w = w' := by
  go_enter Try.func68, Try.ntmps68
  go_wp2_with (first
    | (go_at_call 62; refine (abs_any _ hb _).mono ?_; rintro e w' ⟨rfl, rfl⟩)
    | (go_at_call 77; refine (pow_any _ _).mono ?_; rintro e w' ⟨rfl, rfl⟩))
  go_ret
  exact ⟨rfl, rfl⟩

set_option maxHeartbeats 400000 in
theorem size_any (c : Int) (w : World) :
    Calls Try.prog 65 #[.int .i64 c] w fun e w' => e = .returned (.int .i64 (sizeI c)) ∧ w = w' := by
  by_cases h1 : c < 1
  · have e : sizeI c = 0 := by unfold sizeI; rw [if_pos (.inl h1)]
    rw [e]
    go_enter Try.func65, Try.ntmps65
    go_wp2
    go_ret
    exact ⟨rfl, rfl⟩
  · by_cases h2 : 6 < c
    · have e : sizeI c = 0 := by unfold sizeI; rw [if_pos (.inr h2)]
      rw [e]
      go_enter Try.func65, Try.ntmps65
      go_wp2
      go_ret
      exact ⟨rfl, rfl⟩
    · rcases (by omega : c = 1 ∨ c = 2 ∨ c = 3 ∨ c = 4 ∨ c = 5 ∨ c = 6) with h | h | h | h | h | h
      all_goals
        subst h
        clear h1 h2
        go_enter Try.func65, Try.ntmps65
        go_wp2
        go_ret
        exact ⟨rfl, rfl⟩

/-- The function value of large. -/
def largeV : Value := .func (.func 68) #[] #[]

set_option maxHeartbeats 400000 in
theorem indexLarge (A : Option Addr) (xs : List Nat) (c : Nat) (w : World) (hx : FlR w.heap.size w A xs) (hl : xs.length ≤ 1000) :
    Calls Try.prog 78 #[.slice A xs.length c, .func (.func 68) #[] #[]] w fun e w' => (∃ i : Int, e = .returned (.int .i64 i) ∧ (decide (0 ≤ i)) = xs.any (fun x => !small x)) ∧ w = w' := by
  go_enter Try.func78, Try.ntmps78
  go_wp2
  go_loop [4, 8] (fun _ i => ∃ k : Nat, k ≤ xs.length ∧ i = .int .i64 (k : Int) ∧ ∀ j, j < k → small (xs[j]?.getD 0) = true) (fun _ i => xs.length - (intOf i).toNat)
  case atStart => exact ⟨0, Nat.zero_le _, rfl, fun j hj => absurd hj (Nat.not_lt_zero j)⟩
  case round =>
    obtain ⟨k, hk, rfl, hall⟩ := hrel
    have HA := Lib.hid hall; clear hall
    by_cases hlt : (k : Int) < (xs.length : Int)
    · obtain ⟨b, off, rfl, _, hc⟩ := hx.2 (by omega)
      have hcell := hc k (by omega)
      have hb := hx.lt k
      have KC := Lib.hid hc; clear hc
      have KX := Lib.hid hx; clear hx
      generalize hv : xs[k]?.getD 0 = v at *
      have KV := Lib.hid hv; clear hv
      cases hs : small v
      · go_wp2_with (go_at_call 68; refine (large_any _ hb _).mono ?_; rintro e w' ⟨rfl, rfl⟩)
        go_ret
        exact ⟨⟨k, rfl, by
          rw [decide_eq_true (by omega)]
          symm
          rw [List.any_eq_true]
          exact ⟨xs[k]'(by omega), List.getElem_mem _, by have := KV.out; rw [List.getElem?_eq_getElem (by omega)] at this; simp at this; rw [this, hs]; rfl⟩⟩, rfl⟩
      · go_wp2_with (go_at_call 68; refine (large_any _ hb _).mono ?_; rintro e w' ⟨rfl, rfl⟩)
        go_round
        case rel =>
          refine ⟨k + 1, by omega, by go_num, fun j hj => ?_⟩
          rcases (by omega : j < k ∨ j = k) with h | h
          · exact HA.out j h
          · subst h; rw [KV.out]; exact hs
        case measure => simp [intOf]; omega
    · go_wp2
      go_ret
      exact ⟨⟨-1, rfl, by
        rw [decide_eq_false (by decide)]
        symm
        rw [List.any_eq_false]
        intro x hxm
        rw [List.mem_iff_getElem] at hxm
        obtain ⟨j, hj, rfl⟩ := hxm
        have := HA.out j (by omega)
        rw [List.getElem?_eq_getElem hj] at this
        simpa using this⟩, rfl⟩

set_option maxHeartbeats 400000 in
theorem containsLarge (A : Option Addr) (xs : List Nat) (c : Nat) (w : World) (hx : FlR w.heap.size w A xs) (hl : xs.length ≤ 1000) :
    Calls Try.prog 47 #[.slice A xs.length c, .func (.func 68) #[] #[]] w fun e w' => e = .returned (.bool (xs.any (fun x => !small x))) ∧ w = w' := by
  have H := Lib.hid (indexLarge A xs c w hx hl)
  clear hx
  go_enter Try.func47, Try.ntmps47
  go_wp2_with (go_at_call 78; refine H.out.mono ?_; rintro e w' ⟨⟨i, rfl, hi⟩, rfl⟩)
  go_ret
  exact ⟨ret_bool (by first | rfl | exact hi), rfl⟩

end Go.Proofs.Ytigacobphgeeaaa

/- The iterator over a factor's rows. -/
namespace Go.Proofs.Ytigacobphgeeaaa
open Go.RowKit Lev

attribute [local go_sem] Oper.semAt_some

set_option maxHeartbeats 400000 in
theorem rows_in (F : Fence) (n : Nat) (hF : F.fn 66) (hro : F.round = none) (C : Int) (A : Option Addr) (l c : Nat) (R T : Int) (w : World) :
    CallsIn F n Try.prog 66 #[facV C A l c R T] w fun e w' => e = .returned (.func (.func 87) #[] #[.pointer (some ⟨w.heap.size, 0, none⟩)]) ∧
      w' = w.alloc (.cells #[.int .i64 C, .slice A l c, .int .i64 R, .int .i64 T] 24) := by
  unfold facV
  refine callsIn_of_wp Try.func66 rfl hF ?_ hro
  simp only [Try.ntmps66, List.size_toArray, List.length_cons, List.length_nil, Nat.reduceAdd, Nat.reduceSub, Array.replicate_succ, Array.replicate_zero, List.push_toArray, List.append_toArray, List.nil_append, List.cons_append]
  gi_wp2
  go_ret
  exact ⟨rfl, rfl⟩

theorem take_fin {N k : Nat} (h : k < N) : (List.finRange N).take (k + 1) = (List.finRange N).take k ++ [⟨k, h⟩] := by
  rw [List.take_succ_eq_append_getElem (by rw [List.length_finRange]; exact h)]
  simp

set_option maxRecDepth 100000 in
set_option maxHeartbeats 2000000 in
theorem rows1_in (F : Fence) (n : Nat) (hF : F.fn 87) (hro : F.round = none) (hn : 1 ≤ n) (l Bf n₀ b off c N : Nat) (hN : N ≤ 7) (len : Nat) (hlen : st N N = len) (hcap : len ≤ c) (hc63 : c ≤ 9223372036854775807)
    (J Jx : List (Fin N) → World → Prop)
    (hY : ∀ (pre : List (Fin N)) (x : Fin N) W, J pre W → pre.length < N → YieldAt F (n - 1) Try.prog l #[.slice (some ⟨b, off + st N x.1, none⟩) (N - x.1) (c - st N x.1)] W fun e W' =>
      (e = .returned (.bool true) ∧ J (pre ++ [x]) W' ∧ Below n₀ W W') ∨ (e = .returned (.bool false) ∧ Jx (pre ++ [x]) W'))
    (W : World) (hB0 : W.cell? ⟨Bf, 0, none⟩ = some (.int .i64 ((N : Int) - 1))) (hB1 : W.cell? ⟨Bf, 1, none⟩ = some (.slice (some ⟨b, off, none⟩) len c)) (h0 : J [] W) :
    CallsIn F n Try.prog 87 #[.func (.yield l) #[] #[], .pointer (some ⟨Bf, 0, none⟩)] W fun e W' => (∃ v, e = .returned v) ∧
      ((∃ ys, ys = List.finRange N ∧ J ys W') ∨ (∃ pre, (∃ k, k ≤ N ∧ pre = (List.finRange N).take k) ∧ Jx pre W')) := by
  refine callsIn_of_wp Try.func87 rfl hF ?_ hro
  simp only [Try.ntmps87, List.size_toArray, List.length_cons, List.length_nil, Nat.reduceAdd, Nat.reduceSub, Array.replicate_succ, Array.replicate_zero, List.push_toArray, List.append_toArray, List.nil_append, List.cons_append]
  gi_wp2
  gi_loopw [3, 4] (fun r i wr => ∃ (k m L K : Nat) (A' : Option Addr), m + k = N ∧ L + st N k = len ∧ K + st N k = c ∧ i = .int .i64 (m : Int) ∧ r = .slice A' L K ∧ (k < N → A' = some ⟨b, off + st N k, none⟩) ∧ J ((List.finRange N).take k) wr ∧ Below n₀ W wr)
    (fun _ i _ => (intOf i).toNat)
  case atStart => exact ⟨0, N, len, c, some ⟨b, off, none⟩, rfl, rfl, rfl, rfl, rfl, fun _ => rfl, h0, Below.refl _ _⟩
  case round =>
    obtain ⟨k, m, L, K, A', hm, hL, hK, rfl, rfl, hA, hJs, hnx⟩ := hrel
    by_cases hlt : k < N
    · have hs := st_succ N k
      have hle := st_le (N := N) (k := k + 1) (m := N) (by omega)
      have hA' := hA hlt
      subst hA'
      have hmL : (m : Int) ≤ (L : Int) := by omega
      have hLK : (L : Int) ≤ (K : Int) := by omega
      have hK63 : (K : Int) ≤ 9223372036854775807 := by omega
      have hm0 : (0 : Int) < (m : Int) := by omega
      have hm7 : (m : Int) ≤ 7 := by omega
      obtain ⟨fn, tmps, assign, body, hy, hR⟩ := hY _ ⟨k, hlt⟩ wr hJs (by rw [List.length_take, List.length_finRange]; omega)
      dsimp only at hy
      rw [show N - k = m from by omega, show c - st N k = K from by omega] at hy
      have HM := Lib.hid hm; have HL := Lib.hid hL; have HK := Lib.hid hK
      have HS := Lib.hid hs; have HLE := Lib.hid hle; have HA := Lib.hid hlen; have HC := Lib.hid hcap
      have HC63 := Lib.hid hc63
      clear hm hL hK hs hle hlen hcap hc63 hA hY
      have hKm : K = m ∨ ¬ K = m := Classical.em _
      gi_wp2
      refine hR.mono ?_
      rintro e W3 (⟨rfl, hJ3, hk3⟩ | ⟨rfl, hJx3⟩)
      · gi_wp2
        go_roundw
        case rel =>
          have := HM.out; have := HL.out; have := HK.out; have := HS.out; have := HLE.out; have := HA.out; have := HC.out
          refine ⟨k + 1, m - 1, L - m, K - m, _, by omega, by omega, by omega, by go_num, rfl, fun h => ?_, by rw [take_fin hlt]; exact hJ3, hnx.trans hk3⟩
          have hKm : ¬ K = m := by
            have h3 := st_succ N (k + 1)
            have h4 := st_le (N := N) (k := k + 1 + 1) (m := N) (by omega)
            omega
          rw [if_neg hKm]
          have he : off + st N k + m = off + st N (k + 1) := by omega
          rw [he]
        case measure => have := HM.out; simp [intOf]; omega
      · gi_wp2
        refine bodyPost_ret (results_none rfl _ _ _) rfl ?_
        exact ⟨⟨_, rfl⟩, .inr ⟨_, ⟨k + 1, by omega, (take_fin hlt).symm⟩, hJx3⟩⟩
    · obtain rfl : m = 0 := by omega
      obtain rfl : k = N := by omega
      gi_wp2
      go_end0
      refine ⟨⟨_, rfl⟩, .inl ⟨_, ?_, hJs⟩⟩
      rw [List.take_of_length_le (by rw [List.length_finRange]; omega)]

theorem rows_stops (F : Fence) (n : Nat) (hF : F.fn 87) (hro : F.round = none) (hn : 1 ≤ n) (Bf n₀ b off c N len : Nat) (hN : N ≤ 7) (hlen : st N N = len) (hcap : len ≤ c) (hc63 : c ≤ 9223372036854775807)
    (w : World) (hBf : Bf < w.heap.size) (hB0 : w.cell? ⟨Bf, 0, none⟩ = some (.int .i64 ((N : Int) - 1))) (hB1 : w.cell? ⟨Bf, 1, none⟩ = some (.slice (some ⟨b, off, none⟩) len c)) :
    SeqStopsK F n Try.prog 87 #[.pointer (some ⟨Bf, 0, none⟩)] (fun x : Fin N => #[Value.slice (some ⟨b, off + st N x.1, none⟩) (N - x.1) (c - st N x.1)]) (Below n₀) (fun ys => ys = List.finRange N) (fun pre => ∃ k, k ≤ N ∧ pre = (List.finRange N).take k) N w := fun l J Jx W hW _ _ hY h0 => by
  have c0 := (hW.cell (p := ⟨Bf, 0, none⟩) hBf).trans hB0
  have c1 := (hW.cell (p := ⟨Bf, 1, none⟩) hBf).trans hB1
  exact rows1_in F n hF hro hn l Bf n₀ b off c N hN len hlen hcap hc63 J Jx hY W c0 c1 h0

end Go.Proofs.Ytigacobphgeeaaa

/- The contract of tri.Check. -/
namespace Go.Proofs.Ytigacobphgeeaaa
open Go.RowKit Go.Shelf Lev

attribute [local go_sem] Oper.semAt_some

theorem ret_t {a b : Bool} (h : a = b) : Ending.returned (.bool a) = Ending.returned (.bool b) := by rw [h]

set_option maxRecDepth 100000 in
set_option maxHeartbeats 1000000 in
theorem check_bad (C : Int) (A : Option Addr) (n c : Nat) (R T : Int) (w : World) (h : headOk C n R T = false) (hn63 : n ≤ 9223372036854775807) :
    Calls Try.prog 36 #[facV C A n c R T] w fun e w' => e = .returned (.bool false) ∧ Below w.heap.size w w' := by
  have hs : (sizeI C = 0) ∨ (1 ≤ C ∧ C ≤ 6 ∧ sizeI C ≠ 0) := by
    by_cases h1 : 1 ≤ C ∧ C ≤ 6
    · right
      refine ⟨h1.1, h1.2, ?_⟩
      rw [size_st (N := (C + 1).toNat) h1.1 h1.2 (by omega)]
      have := st_all (C + 1).toNat
      have h3 : 2 ≤ (C + 1).toNat := by omega
      have := Nat.mul_le_mul h3 h3
      omega
    · left; unfold sizeI; rw [if_pos (by omega)]
  unfold headOk at h
  rw [decide_eq_false_iff_not] at h
  unfold facV
  rcases hs with hs | ⟨h1, h6, hs⟩
  · have d1 : (sizeI C == 0) = true := by rw [beq_iff_eq]; exact hs
    have KS := Lib.hid hs; clear hs h
    go_enter Try.func36, Try.ntmps36
    go_wp2_with (go_at_call 65; refine (size_any _ _).mono ?_; rintro e w' ⟨rfl, rfl⟩)
    go_returns
    exact ⟨rfl, by go_grown⟩
  · have d1 : (sizeI C == 0) = false := by rw [beq_eq_false_iff_ne]; exact hs
    by_cases h2 : (n : Int) = sizeI C
    · have d2 : ((n : Int) != sizeI C) = false := by rw [bne_eq_false_iff_eq]; exact h2
      have d3 : R < 0 ∨ (0 ≤ R ∧ 200 < R) ∨ (0 ≤ R ∧ R ≤ 200 ∧ T < 0) ∨ (0 ≤ R ∧ R ≤ 200 ∧ 0 ≤ T ∧ 4096 < T) := by omega
      have KH := Lib.hid h2; have KS := Lib.hid hs; clear hs h h2
      rcases d3 with d3 | ⟨d3, d4⟩ | ⟨d3, d4, d5⟩ | ⟨d3, d4, d5, d6⟩
      all_goals
        go_enter Try.func36, Try.ntmps36
        go_wp2_with (go_at_call 65; refine (size_any _ _).mono ?_; rintro e w' ⟨rfl, rfl⟩)
        go_returns
        exact ⟨rfl, by go_grown⟩
    · have d2 : ((n : Int) != sizeI C) = true := by rw [bne_iff_ne]; exact h2
      have KH := Lib.hid h2; have KS := Lib.hid hs; clear hs h h2
      go_enter Try.func36, Try.ntmps36
      go_wp2_with (go_at_call 65; refine (size_any _ _).mono ?_; rintro e w' ⟨rfl, rfl⟩)
      go_returns
      exact ⟨rfl, by go_grown⟩

theorem Boxed4.new (w : World) (t : TypeId) (v0 v1 v2 v3 : Value) : (w.alloc (.cells #[v0, v1, v2, v3] t)).cell? ⟨w.heap.size, 0, none⟩ = some v0 ∧ (w.alloc (.cells #[v0, v1, v2, v3] t)).cell? ⟨w.heap.size, 1, none⟩ = some v1 := by
  constructor <;> simp [go_sem]

set_option maxRecDepth 100000 in
set_option maxHeartbeats 2000000 in
theorem check_rows (C : Int) (N : Nat) (hN : (N : Int) = C + 1) (b off : Nat) (xs : List Nat) (c : Nat) (R T : Int) (w : World) (hb : b < w.heap.size) (hlt : ∀ x ∈ xs, x < 18446744073709551616)
    (hcell : ∀ j, j < xs.length → w.cell? ⟨b, off + j, none⟩ = some (.float .f64 (xs[j]?.getD 0))) (hcap : xs.length ≤ c) (hc63 : c ≤ 9223372036854775807) (h1 : 1 ≤ C) (h6 : C ≤ 6) (hsz : (xs.length : Int) = sizeI C)
    (hR0 : 0 ≤ R) (hR1 : R ≤ 200) (hT0 : 0 ≤ T) (hT1 : T ≤ 4096) :
    Calls Try.prog 36 #[facV C (some ⟨b, off, none⟩) xs.length c R T] w fun e w' => e = .returned (.bool (rowsOk N xs)) ∧ Below w.heap.size w w' := by
  have hlen : st N N = xs.length := by have := size_st h1 h6 hN; omega
  have d1 : (sizeI C == 0) = false := by
    rw [beq_eq_false_iff_ne, ← hsz]
    have := st_all N
    have h3 : 2 ≤ N := by omega
    have := Nat.mul_le_mul h3 h3
    omega
  have d2 : ((xs.length : Int) != sizeI C) = false := by rw [bne_eq_false_iff_eq]; exact hsz
  have hs : xs.length ≤ 28 := by
    have := st_all N
    have h3 : N ≤ 7 := by omega
    have := Nat.mul_le_mul h3 h3
    omega
  have e1 : decide (R < 0) = false := decide_eq_false (by omega)
  have e2 : decide (200 < R) = false := decide_eq_false (by omega)
  have e3 : decide (T < 0) = false := decide_eq_false (by omega)
  have e4 : decide (4096 < T) = false := decide_eq_false (by omega)
  have HSZ := Lib.hid hsz; clear hsz
  have HL := Lib.hid hlen
  have HN := Lib.hid hN
  have HC := Lib.hid hcell
  have HLT := Lib.hid hlt
  clear hlen hcell hlt hN
  unfold facV
  refine (callsIn_wide (n := 5)).1 ?_
  refine callsIn_of_wp_marks Try.func36 rfl trivial ?_ rfl
  simp only [Try.ntmps36, List.size_toArray, List.length_cons, List.length_nil, Nat.reduceAdd, Nat.reduceSub, Array.replicate_succ, Array.replicate_zero, List.push_toArray, List.append_toArray, List.nil_append, List.cons_append]
  gi_wp2_with (first
    | (refine ⟨trivial, ?_⟩; gi_at_call 65; refine (callsIn_wide.2 (size_any _ _)).mono ?_; rintro e w' ⟨rfl, rfl⟩)
    | (refine ⟨trivial, ?_⟩; gi_at_call 66; refine (rows_in Fence.wide _ trivial rfl _ _ _ _ _ _ _).mono ?_; rintro e w' ⟨rfl, rfl⟩))
  have bF := Boxed4.new ((w.alloc (.cells #[.int .i64 C, .slice (some ⟨b, off, none⟩) xs.length c, .int .i64 R, .int .i64 T] 24)).alloc (.cells #[.bool false] 4)) 24 (.int .i64 C) (.slice (some ⟨b, off, none⟩) xs.length c) (.int .i64 R) (.int .i64 T)
  have bR := Boxed.new (w.alloc (.cells #[.int .i64 C, .slice (some ⟨b, off, none⟩) xs.length c, .int .i64 R, .int .i64 T] 24)) 4 (.bool false)
  simp only [World.size_alloc] at bF bR
  have hB0 : Below w.heap.size w (((w.alloc (.cells #[.int .i64 C, .slice (some ⟨b, off, none⟩) xs.length c, .int .i64 R, .int .i64 T] 24)).alloc (.cells #[.bool false] 4)).alloc (.cells #[.int .i64 C, .slice (some ⟨b, off, none⟩) xs.length c, .int .i64 R, .int .i64 T] 24)) := (((Below.refl _ w).alloc (Nat.le_refl _) _).alloc (by simp) _).alloc (by simp; omega) _
  refine wpIn_rangeFunc_ownG rfl (by decide) (gf := 87) (lb := #[.pointer (some ⟨w.heap.size + 1 + 1, 0, none⟩)]) rfl trivial (enters_of Try.func87 (by kernel_rfl) rfl)
    (rows_stops Fence.wide 4 trivial rfl (by decide) (w.heap.size + 1 + 1) w.heap.size b off c N xs.length (by have := HN.out; omega) HL.out hcap hc63 _ (by simp) (by rw [bF.1]; simp; have := HN.out; omega) bF.2) belowK_t (belowK_b (by simp; omega)) (Below.refl _ _) (fun _ => rfl)
    (fun pre W => ((∀ x ∈ pre, rowOk N xs x.1 = true) ∧ W.cell? ⟨w.heap.size + 1, 0, none⟩ = some (.bool false) ∧ W.frozen? ⟨w.heap.size + 1, 0, none⟩ = false) ∧ Below w.heap.size w W)
    (fun c' pre W => (c' = .ret ∧ (∃ x ∈ pre, rowOk N xs x.1 = false) ∧ W.cell? ⟨w.heap.size + 1, 0, none⟩ = some (.bool false)) ∧ Below w.heap.size w W)
    (OwnFrom.and (Own.from (fun s A B row hs hg hr => ⟨hs.1, cell_kept hs.2.1 hg hr, (frozen_kept hs.2.1 hg hr).trans hs.2.2⟩) _) (ownFrom_below (Nat.le_refl _) (by simp; omega)))
    (fun c' => OwnFrom.and (Own.from (fun s A B row hs hg hr => ⟨hs.1, hs.2.1, cell_kept hs.2.2 hg hr⟩) _) (ownFrom_below (Nat.le_refl _) (by simp; omega)))
    ⟨⟨by simp, (bR.alloc _).cell, (bR.alloc _).frozen⟩, hB0⟩
    (fun x => { tmps := #[.agg #[.int .i64 C, .slice (some ⟨b, off, none⟩) xs.length c, .int .i64 R, .int .i64 T], .pointer (some ⟨w.heap.size, 0, none⟩), .pointer (some ⟨w.heap.size + 1, 0, none⟩), .int .i64 (sizeI C), .slice (some ⟨b, off + st N x.1, none⟩) (N - x.1) (c - st N x.1), .pointer (some ⟨w.heap.size, 0, none⟩), .int .i64 C, .int .i64 (sizeI C), .int .i64 (sizeI C), .bool false, .bool false, .pointer (some ⟨w.heap.size, 1, none⟩), .slice (some ⟨b, off, none⟩) xs.length c, .int .i64 (xs.length : Int), .int .i64 (sizeI C), .bool false, .bool false, .bool false, .pointer (some ⟨w.heap.size, 2, none⟩), .int .i64 R, .bool false, .bool false, .bool false, .pointer (some ⟨w.heap.size, 2, none⟩), .int .i64 R, .bool false, .bool false, .bool false, .pointer (some ⟨w.heap.size, 3, none⟩), .int .i64 T, .bool false, .bool false, .bool false, .pointer (some ⟨w.heap.size, 3, none⟩), .int .i64 T, .bool false, .bool false, .agg #[.int .i64 C, .slice (some ⟨b, off, none⟩) xs.length c, .int .i64 R, .int .i64 T], .func (.func 87) #[] #[.pointer (some ⟨w.heap.size + 1 + 1, 0, none⟩)], .slice (some ⟨b, off + st N x.1, none⟩) (N - x.1) (c - st N x.1), undef, undef, undef, undef, undef, undef, undef, undef], defers := [] }) ?assign ?body ?done ?stop
  case assign =>
    intro l x W K hK
    gi_wp2
    exact hK
  case body =>
    rintro l pre ⟨k, hk⟩ W ⟨⟨hp, hcr, hfr⟩, hB⟩ _
    have hs1 := st_succ N k
    have hs2 := st_le (N := N) (k := k + 1) (m := N) (by omega)
    have hl := HL.out
    have hc0 : W.cell? ⟨b, off + st N k, none⟩ = some (.float .f64 (xs[st N k]?.getD 0)) := (hB.cell (p := ⟨b, off + st N k, none⟩) hb).trans (HC.out _ (by omega))
    have hrl : ((xs.drop (st N k)).take (N - k)).length = N - k := by rw [List.length_take, List.length_drop]; omega
    have hrow : FlR W.heap.size W (some ⟨b, off + st N k, none⟩) ((xs.drop (st N k)).take (N - k)) := by
      refine ⟨fun y hy => HLT.out y (List.mem_of_mem_drop (List.mem_of_mem_take hy)), fun _ => ⟨b, off + st N k, rfl, Nat.lt_of_lt_of_le hb hB.size, fun j hj => ?_⟩⟩
      rw [hrl] at hj
      have h3 := (hB.cell (p := ⟨b, off + (st N k + j), none⟩) hb).trans (HC.out (st N k + j) (by omega))
      have h4 : ((xs.drop (st N k)).take (N - k))[j]? = xs[st N k + j]? := by
        rw [List.getElem?_take_of_lt hj, List.getElem?_drop]
      rw [h4, Nat.add_assoc]; exact h3
    have hcon := fun c' => containsLarge (some ⟨b, off + st N k, none⟩) ((xs.drop (st N k)).take (N - k)) c' W hrow (by rw [hrl]; omega)
    rw [hrl] at hcon
    have HCON := Lib.hid hcon; clear hcon
    have hv : xs[st N k]?.getD 0 < 18446744073709551616 := by
      rw [List.getElem?_eq_getElem (by omega)]; exact HLT.out _ (List.getElem_mem _)
    have hrok : rowOk N xs k = (!sg (xs[st N k]?.getD 0) && ((xs.drop (st N k)).take (N - k)).all small) := rfl
    have hany : ((xs.drop (st N k)).take (N - k)).any (fun x => !small x) = !((xs.drop (st N k)).take (N - k)).all small := by
      rw [Bool.eq_iff_iff]; simp
    have h1k : (0 : Int) < ((N - k : Nat) : Int) := by omega
    have HP := Lib.hid hp; clear hp
    generalize hvv : xs[st N k]?.getD 0 = v at *
    generalize hal : ((xs.drop (st N k)).take (N - k)).all small = al at *
    generalize ((xs.drop (st N k)).take (N - k)).any (fun x => !small x) = an at *
    subst hany
    have HR := Lib.hid hrok
    have HV := Lib.hid hv
    obtain ⟨m, hm⟩ : ∃ m, m = N - k := ⟨_, rfl⟩
    dsimp only
    rw [← hm] at HCON h1k ⊢
    clear hrok hv hvv hal hrl hrow hs1 hs2 hl hm
    cases hsg : sg v
    · rw [hsg] at HR
      cases al
      · skip
        gi_wp2_with (first
          | (refine ⟨trivial, ?_⟩; gi_at_call 67; refine (CallsIn.inRound l (callsIn_wide.2 (signbit_any _ HV.out _))).mono ?_; rintro e w' ⟨rfl, rfl⟩)
          | (refine ⟨trivial, ?_⟩; gi_at_call 47; refine (CallsIn.inRound l (callsIn_wide.2 (HCON.out _))).mono ?_; rintro e w' ⟨rfl, rfl⟩))
        exact ⟨(KeepsOthers.setCell _ _ _).from _, ⟨rfl, ⟨⟨k, hk⟩, List.mem_append.2 (.inr (List.mem_singleton.2 rfl)), HR.out⟩, World.cell?_setCell_same' _ _ _ (by rw [hcr]; rfl)⟩, hB.setCell (p := ⟨w.heap.size + 1, 0, none⟩) (by simp) _⟩
      · skip
        gi_wp2_with (first
          | (refine ⟨trivial, ?_⟩; gi_at_call 67; refine (CallsIn.inRound l (callsIn_wide.2 (signbit_any _ HV.out _))).mono ?_; rintro e w' ⟨rfl, rfl⟩)
          | (refine ⟨trivial, ?_⟩; gi_at_call 47; refine (CallsIn.inRound l (callsIn_wide.2 (HCON.out _))).mono ?_; rintro e w' ⟨rfl, rfl⟩))
        exact ⟨KeepsFrom.refl _ _, Below.refl _ _, ⟨fun y hy => (List.mem_append.1 hy).elim (HP.out y) (fun e => by rw [List.mem_singleton] at e; subst e; exact HR.out), hcr, hfr⟩, hB⟩
    · rw [hsg] at HR
      gi_wp2_with (first
        | (refine ⟨trivial, ?_⟩; gi_at_call 67; refine (CallsIn.inRound l (callsIn_wide.2 (signbit_any _ HV.out _))).mono ?_; rintro e w' ⟨rfl, rfl⟩)
        | (refine ⟨trivial, ?_⟩; gi_at_call 47; refine (CallsIn.inRound l (callsIn_wide.2 (HCON.out _))).mono ?_; rintro e w' ⟨rfl, rfl⟩))
      refine ⟨trivial, ?_⟩
      gi_wp2
      exact ⟨(KeepsOthers.setCell _ _ _).from _, ⟨rfl, ⟨⟨k, hk⟩, List.mem_append.2 (.inr (List.mem_singleton.2 rfl)), HR.out⟩, World.cell?_setCell_same' _ _ _ (by rw [hcr]; rfl)⟩, hB.setCell (p := ⟨w.heap.size + 1, 0, none⟩) (by simp) _⟩
  case done =>
    rintro D ys W hD rfl ⟨⟨hall, hcr, hfr⟩, hB⟩ hK
    have hres : rowsOk N xs = true := by
      unfold rowsOk
      rw [List.all_eq_true]
      intro k hk
      rw [List.mem_range] at hk
      exact hall ⟨k, hk⟩ (List.mem_finRange _)
    have HRES := Lib.hid hres; clear hres hall
    gi_wp2
    have hK' := (KeepsOthers.setCell W ⟨w.heap.size + 1, 0, none⟩ (.bool true)).same D _ hK rfl
    refine ⟨by simp, .inl ⟨_, _, rfl, run_takeDeferred hK', ?_⟩⟩
    have hc5 := cell_kept (World.cell?_setCell_same' W ⟨w.heap.size + 1, 0, none⟩ (.bool true) (by rw [hcr]; rfl)) (grownBy_putObj' _ D (.deferred none)) (fun r e => by cases e; exact ⟨_, hK', rfl⟩)
    refine ⟨.bool true, ?_, by rw [HRES.out], (hB.setCell (p := ⟨w.heap.size + 1, 0, none⟩) (by simp) _).trans (belowK_b (w := w) (Nat.le_refl _) _ D _ _ (by simp at hD; omega) hK' rfl rfl)⟩
    simp [results, Try.f36, go_sem, hc5]
  case stop =>
    rintro D c' pre W hD hpre ⟨⟨rfl, ⟨⟨k, hk⟩, _, hbad⟩, hcr⟩, hB⟩ hK
    have hres : rowsOk N xs = false := by
      unfold rowsOk
      rw [List.all_eq_false]
      exact ⟨k, List.mem_range.2 hk, by rw [hbad]; decide⟩
    have HRES := Lib.hid hres; clear hres hbad
    gi_wp2
    refine ⟨by simp, .inl ⟨_, _, rfl, run_takeDeferred hK, ?_⟩⟩
    have hc5 := cell_kept hcr (grownBy_putObj' _ D (.deferred none)) (fun r e => by cases e; exact ⟨_, hK, rfl⟩)
    refine ⟨.bool false, ?_, by rw [HRES.out], hB.trans (belowK_b (w := w) (Nat.le_refl _) W D _ _ (by simp at hD; omega) hK rfl rfl)⟩
    simp [results, Try.f36, go_sem, hc5]

theorem check_any (C : Int) (A : Option Addr) (xs : List Nat) (c : Nat) (R T : Int) (w : World) (hx : SlArg w A xs c) :
    Calls Try.prog 36 #[facV C A xs.length c R T] w fun e w' => e = .returned (.bool (checkS C xs R T)) ∧ Below w.heap.size w w' := by
  unfold checkS
  cases h : headOk C xs.length R T
  · rw [Bool.false_and]
    exact check_bad C A xs.length c R T w h (Nat.le_trans hx.cap hx.room)
  · rw [Bool.true_and]
    have h' := h
    unfold headOk at h'
    rw [decide_eq_true_eq] at h'
    obtain ⟨h1, h6, hsz, hR0, hR1, hT0, hT1⟩ := h'
    obtain ⟨N, hN⟩ : ∃ N : Nat, (N : Int) = C + 1 := ⟨(C + 1).toNat, by omega⟩
    have hNe : (C + 1).toNat = N := by omega
    have hpos : 0 < xs.length := by
      have := size_st h1 h6 hN
      have := st_all N
      have h3 : 2 ≤ N := by omega
      have := Nat.mul_le_mul h3 h3
      omega
    obtain ⟨b, off, rfl, hb, hc⟩ := hx.reads.2 hpos
    rw [hNe]
    exact check_rows C N hN b off xs c R T w hb hx.reads.1 hc hx.cap hx.room h1 h6 hsz hR0 hR1 hT0 hT1

end Go.Proofs.Ytigacobphgeeaaa

/- Contracts of the document's answers for layer 7: Size, At, Check. -/
namespace Go.Proofs.Ytigacobphgeeaaa
open Go.RowKit Go.Shelf Lev

attribute [local go_sem] order_lt order_gt order_eq order_ne flt_or_feq flt_or_feq' p420

theorem q_of {P : Program} {f : FuncId} {args : Array Value} {w : World} {n : Nat} {v : Value} (h : Calls P f args (w.drewN n) fun e w' => e = .returned v ∧ w.drewN n = w') :
    Calls P f args (w.drewN n) fun e w'' => e = .returned v ∧ ∃ m, w'' = w.drewN m := h.mono fun _ _ ⟨he, hm⟩ => ⟨he, n, hm.symm⟩

theorem _root_.Go.RowKit.Below.drewN {B : Nat} {a w : World} (h : Below B a w) (n : Nat) : Below B a (w.drewN n) := ⟨h.os, h.tape, h.output, h.size, h.block⟩

theorem flt_small (b : Nat) : flt 6498694262295625728 (rg b) = decide (6498694262295625728 < rg b ∧ rg b ≤ INF) := by
  have h1 : ord 6498694262295625728 = 6498694262295625728 := by decide
  have h2 : rg 6498694262295625728 = 6498694262295625728 := by decide
  unfold flt
  rw [ord_rg, h1, h2, rg_rg, decide_eq_decide, INF_eq]; omega

theorem flt_small_fin {b : Nat} (hf : fin b) : flt 6498694262295625728 (rg b) = !small b := by
  rw [flt_small]; unfold small; unfold fin at hf
  rw [← decide_not, decide_eq_decide]; omega
theorem ret_t' {a b : Bool} (h : a = b) : Ending.returned (.bool a) = Ending.returned (.bool b) := by rw [h]

set_option maxHeartbeats 400000 in
theorem rsize_any (c : Int) (w : World) :
    Calls Try.prog 61 #[.int .i64 c] w fun e w' => e = .returned (.int .i64 (sizeI c)) ∧ w = w' := by
  by_cases h1 : c < 1
  · have e : sizeI c = 0 := by unfold sizeI; rw [if_pos (.inl h1)]
    rw [e]
    go_enter Try.func61, Try.ntmps61
    go_wp2
    go_ret
    exact ⟨rfl, rfl⟩
  · by_cases h2 : 6 < c
    · have e : sizeI c = 0 := by unfold sizeI; rw [if_pos (.inr h2)]
      rw [e]
      go_enter Try.func61, Try.ntmps61
      go_wp2
      go_ret
      exact ⟨rfl, rfl⟩
    · rcases (by omega : c = 1 ∨ c = 2 ∨ c = 3 ∨ c = 4 ∨ c = 5 ∨ c = 6) with h | h | h | h | h | h
      all_goals
        subst h
        clear h1 h2
        go_enter Try.func61, Try.ntmps61
        go_wp2
        go_ret
        exact ⟨rfl, rfl⟩

theorem size_ne {C : Int} (h1 : 1 ≤ C) (h6 : C ≤ 6) : sizeI C ≠ 0 := by
  rw [size_st (N := (C + 1).toNat) h1 h6 (by omega)]
  have := st_all (C + 1).toNat
  have h3 : 2 ≤ (C + 1).toNat := by omega
  have := Nat.mul_le_mul h3 h3
  omega

theorem ret_ib {i j : Int} {s t : Bool} (h : i = j) (h2 : s = t) : Ending.returned (.tuple #[.int .i64 i, .bool s]) = Ending.returned (.tuple #[.int .i64 j, .bool t]) := by rw [h, h2]

set_option maxHeartbeats 400000 in
/-- The place of an entry that there is. -/
theorem rat_yes (C i j : Int) (N : Nat) (hN : (N : Int) = C + 1) (h1 : 1 ≤ C) (h6 : C ≤ 6) (hi : 0 ≤ i) (hj : i ≤ j) (hC : j ≤ C) (w : World) :
    Calls Try.prog 55 #[.int .i64 C, .int .i64 i, .int .i64 j] w fun e w' => e = .returned (.tuple #[.int .i64 ((st N i.toNat : Int) + (j - i)), .bool true]) ∧ w = w' := by
  have d1 : (sizeI C == 0) = false := by rw [beq_eq_false_iff_ne]; exact size_ne h1 h6
  have e1 : decide (i < 0) = false := decide_eq_false (by omega)
  have e2 : decide (j < i) = false := decide_eq_false (by omega)
  have e3 : decide (C < j) = false := decide_eq_false (by omega)
  have KN := Lib.hid hN; clear hN
  go_enter Try.func55, Try.ntmps55
  go_wp2_with (go_at_call 61; refine (rsize_any _ _).mono ?_; rintro e w' ⟨rfl, rfl⟩)
  go_loop [8, 9] (fun k r => ∃ m s : Nat, s = st N m ∧ (m : Int) ≤ i ∧ s ≤ 49 ∧ r = .int .i64 (m : Int) ∧ k = .int .i64 (s : Int)) (fun _ r => (i - intOf r).toNat)
  case atStart => exact ⟨0, 0, rfl, hi, by decide, rfl, rfl⟩
  case round =>
    obtain ⟨m, s, hs, hm, hs49, rfl, rfl⟩ := hrel
    have KS := Lib.hid hs; clear hs
    by_cases hlt : (m : Int) < i
    · go_wp2
      go_round
      case rel =>
        have := KN.out; have h2 := st_succ N m
        have h3 := st_le (N := N) (k := m + 1) (m := N) (by omega)
        have h4 := st_all N
        have h5 : N ≤ 7 := by omega
        have h6 := Nat.mul_le_mul h5 h5
        exact ⟨m + 1, s + (N - m), by rw [KS.out, h2], by omega, by rw [KS.out, ← h2]; omega, by go_num, by congr 1; omega⟩
      case measure => simp [intOf]; omega
    · obtain rfl : i = (m : Int) := by omega
      go_wp2
      go_ret2
      exact ⟨ret_ib (by rw [← KS.out]; omega) rfl, rfl⟩

theorem rat_diag (C : Int) (q N : Nat) (hN : (N : Int) = C + 1) (h1 : 1 ≤ C) (h6 : C ≤ 6) (hq : (q : Int) ≤ C) (w : World) :
    Calls Try.prog 55 #[.int .i64 C, .int .i64 (q : Int), .int .i64 (q : Int)] w fun e w' => e = .returned (.tuple #[.int .i64 ((st N q : Nat) : Int), .bool true]) ∧ w = w' := by
  refine (rat_yes C q q N hN h1 h6 (by omega) (by omega) hq w).mono ?_
  rintro e w' ⟨rfl, rfl⟩
  exact ⟨ret_ib (by rw [Int.toNat_natCast]; omega) rfl, rfl⟩

set_option maxHeartbeats 400000 in
/-- The place of an entry that there is not. -/
theorem rat_no (C i j : Int) (h : sizeI C = 0 ∨ i < 0 ∨ j < i ∨ C < j) (w : World) :
    Calls Try.prog 55 #[.int .i64 C, .int .i64 i, .int .i64 j] w fun e w' => e = .returned (.tuple #[.int .i64 0, .bool false]) ∧ w = w' := by
  by_cases h1 : sizeI C = 0
  · have d1 : (sizeI C == 0) = true := by rw [beq_iff_eq]; exact h1
    clear h h1
    go_enter Try.func55, Try.ntmps55
    go_wp2_with (go_at_call 61; refine (rsize_any _ _).mono ?_; rintro e w' ⟨rfl, rfl⟩)
    go_ret2
    exact ⟨rfl, rfl⟩
  · have d1 : (sizeI C == 0) = false := by rw [beq_eq_false_iff_ne]; exact h1
    rcases (by omega : i < 0 ∨ (¬ i < 0 ∧ j < i) ∨ (¬ i < 0 ∧ ¬ j < i ∧ C < j)) with e1 | ⟨e1, e2⟩ | ⟨e1, e2, e3⟩
    all_goals
      clear h h1
      go_enter Try.func55, Try.ntmps55
      go_wp2_with (go_at_call 61; refine (rsize_any _ _).mono ?_; rintro e w' ⟨rfl, rfl⟩)
      go_ret2
      exact ⟨rfl, rfl⟩

theorem kindS_gt (b : Nat) : decide (1 < kindS b) = !decide (fin b) := by
  rw [← decide_not, decide_eq_decide]
  have := kindS_le (b := b)
  rw [← this]; omega
theorem nS_fin {b : Nat} (h : fin b) : nS b = sg b := by
  have := kindS_le.2 h
  unfold nS; rw [decide_eq_true (by omega), Bool.true_and]

set_option maxRecDepth 100000 in
set_option maxHeartbeats 2000000 in
theorem rcheck_rows (C : Int) (N : Nat) (hN : (N : Int) = C + 1) (b off : Nat) (xs : List Nat) (c : Nat) (R T : Int) (w : World) (hb : b < w.heap.size) (hlt : ∀ x ∈ xs, x < 18446744073709551616)
    (hcell : ∀ j, j < xs.length → w.cell? ⟨b, off + j, none⟩ = some (.float .f64 (xs[j]?.getD 0))) (h1 : 1 ≤ C) (h6 : C ≤ 6) (hsz : (xs.length : Int) = sizeI C)
    (hR0 : 0 ≤ R) (hR1 : R ≤ 200) (hT0 : 0 ≤ T) (hT1 : T ≤ 4096) :
    Calls Try.prog 31 #[facV C (some ⟨b, off, none⟩) xs.length c R T] w fun e w' => e = .returned (.bool (rowsOk N xs)) ∧ Below w.heap.size w w' := by
  have hlen : st N N = xs.length := by have := size_st h1 h6 hN; omega
  have d1 : (sizeI C == 0) = false := by rw [beq_eq_false_iff_ne]; exact size_ne h1 h6
  have d2 : ((xs.length : Int) != sizeI C) = false := by rw [bne_eq_false_iff_eq]; exact hsz
  have e1 : decide (R < 0) = false := decide_eq_false (by omega)
  have e2 : decide (200 < R) = false := decide_eq_false (by omega)
  have e3 : decide (T < 0) = false := decide_eq_false (by omega)
  have e4 : decide (4096 < T) = false := decide_eq_false (by omega)
  have hs : xs.length ≤ 28 := by
    have := st_all N
    have h3 : N ≤ 7 := by omega
    have := Nat.mul_le_mul h3 h3
    omega
  have HSZ := Lib.hid hsz; have HL := Lib.hid hlen; have HN := Lib.hid hN; have HC := Lib.hid hcell; have HLT := Lib.hid hlt
  clear hsz hlen hcell hlt hN
  unfold facV
  go_enter Try.func31, Try.ntmps31
  go_wp2_with (go_at_call 61; refine (rsize_any _ _).mono ?_; rintro e w' ⟨rfl, rfl⟩)
  obtain ⟨W, hW⟩ : ∃ W, W = w.alloc (.cells #[.int .i64 C, .slice (some ⟨b, off, none⟩) xs.length c, .int .i64 R, .int .i64 T] 24) := ⟨_, rfl⟩
  have c0 : W.cell? ⟨w.heap.size, 0, none⟩ = some (.int .i64 C) := by rw [hW]; simp [go_sem]
  have c1 : W.cell? ⟨w.heap.size, 1, none⟩ = some (.slice (some ⟨b, off, none⟩) xs.length c) := by rw [hW]; simp [go_sem]
  have c2 : W.cell? ⟨w.heap.size, 2, none⟩ = some (.int .i64 R) := by rw [hW]; simp [go_sem]
  have c3 : W.cell? ⟨w.heap.size, 3, none⟩ = some (.int .i64 T) := by rw [hW]; simp [go_sem]
  rw [← hW]
  have KW := Lib.hid hW; clear hW
  go_quiet (first | (go_at_call 61; exact q_of (rsize_any _ _)))
  go_wp2
  go_loopw [3] (fun i wr => ∃ j n : Nat, i = .int .i64 (j : Int) ∧ j ≤ xs.length ∧ wr = W.drewN n ∧ ∀ q, q < j → small (xs[q]?.getD 0) = true) (fun i _ => xs.length - (intOf i).toNat)
  case atStart => exact ⟨0, nq, rfl, Nat.zero_le _, rfl, by intro q h; omega⟩
  case round =>
    obtain ⟨j, n, rfl, hj, rfl, hsm⟩ := hrel
    have HS := Lib.hid hsm; clear hsm
    by_cases hlt : (j : Int) < (xs.length : Int)
    · have hcj : (W.drewN n).cell? ⟨b, off + j, none⟩ = some (.float .f64 (xs[j]?.getD 0)) := by rw [World.cell?_drewN, KW.out]; simp [go_sem, hb]; exact HC.out j (by omega)
      have hv : xs[j]?.getD 0 < 18446744073709551616 := by
        rw [List.getElem?_eq_getElem (by omega)]; exact HLT.out _ (List.getElem_mem _)
      generalize hx : xs[j]?.getD 0 = x at *
      have HX := Lib.hid hx; have HV := Lib.hid hv
      clear hx hv
      have hbad : small x = false → rowsOk N xs = false := by
        intro h
        rw [Bool.eq_false_iff]
        intro hr
        have := ((rowsOk_iff HL.out.symm).1 hr).1 j (by omega)
        rw [HX.out, h] at this
        exact Bool.false_ne_true this
      have HB := Lib.hid hbad; clear hbad
      by_cases hf : fin x
      · have k1 : decide (1 < kindS x) = false := by rw [kindS_gt, decide_eq_true hf]; rfl
        cases hs : small x
        · have k2 : flt 6498694262295625728 (rg x) = true := by rw [flt_small_fin hf, hs]; rfl
          clear hf
          have HSx := Lib.hid hs; clear hs
          go_wp2_with (first
            | (go_at_call 42; refine (rsplit_any _ HV.out _).mono ?_; rintro e w' ⟨rfl, rfl⟩; unfold splitV)
            | (go_at_call 62; refine (abs_any _ HV.out _).mono ?_; rintro e w' ⟨rfl, rfl⟩)
            | (go_at_call 63; refine (rpow_any _ _).mono ?_; rintro e w' ⟨rfl, rfl⟩))
          go_ret
          exact ⟨ret_t' (HB.out HSx.out).symm, by rw [KW.out]; exact ((Below.refl _ w).alloc (Nat.le_refl _) _).drewN n⟩
        · have k2 : flt 6498694262295625728 (rg x) = false := by rw [flt_small_fin hf, hs]; rfl
          clear hf
          have HSx := Lib.hid hs; clear hs
          go_wp2_with (first
            | (go_at_call 42; refine (rsplit_any _ HV.out _).mono ?_; rintro e w' ⟨rfl, rfl⟩; unfold splitV)
            | (go_at_call 62; refine (abs_any _ HV.out _).mono ?_; rintro e w' ⟨rfl, rfl⟩)
            | (go_at_call 63; refine (rpow_any _ _).mono ?_; rintro e w' ⟨rfl, rfl⟩))
          go_roundw
          case rel =>
            refine ⟨j + 1, n, by go_num, by omega, rfl, ?_⟩
            intro q hq
            by_cases hqj : q < j
            · exact HS.out q hqj
            · obtain rfl : q = j := by omega
              rw [HX.out]; exact HSx.out
          case measure => simp [intOf]; omega
      · have k1 : decide (1 < kindS x) = true := by rw [kindS_gt, decide_eq_false hf]; rfl
        have hs : small x = false := by rw [Bool.eq_false_iff]; exact fun h => hf (small_fin h)
        clear hf
        have HSx := Lib.hid hs; clear hs
        go_wp2_with (go_at_call 42; refine (rsplit_any _ HV.out _).mono ?_; rintro e w' ⟨rfl, rfl⟩; unfold splitV)
        go_ret
        exact ⟨ret_t' (HB.out HSx.out).symm, by rw [KW.out]; exact ((Below.refl _ w).alloc (Nat.le_refl _) _).drewN n⟩
    · obtain rfl : j = xs.length := by omega
      clear hlt hj
      have HS1 := Lib.hid HS.out; clear HS
      go_wp2
      go_loopw [8] (fun i wr => ∃ q n : Nat, i = .int .i64 (q : Int) ∧ q ≤ N ∧ wr = W.drewN n ∧ ∀ k, k < q → sg (xs[st N k]?.getD 0) = false) (fun i _ => N - (intOf i).toNat)
      case atStart => exact ⟨0, n, rfl, Nat.zero_le _, rfl, by intro q h; omega⟩
      case round =>
        obtain ⟨q, n, rfl, hq, rfl, hsg⟩ := hrel
        have HG := Lib.hid hsg; clear hsg
        by_cases hlt : (q : Int) ≤ C
        · have hqN : q < N := by have := HN.out; omega
          have hst : st N q < xs.length := by
            have h1 := st_succ N q
            have h2 := st_le (N := N) (k := q + 1) (m := N) (by omega)
            have := HL.out; omega
          have hcj : (W.drewN n).cell? ⟨b, off + st N q, none⟩ = some (.float .f64 (xs[st N q]?.getD 0)) := by rw [World.cell?_drewN, KW.out]; simp [go_sem, hb]; exact HC.out (st N q) hst
          have hv : xs[st N q]?.getD 0 < 18446744073709551616 := by
            rw [List.getElem?_eq_getElem hst]; exact HLT.out _ (List.getElem_mem _)
          have hsm : small (xs[st N q]?.getD 0) = true := HS1.out _ hst
          have hn : nS (xs[st N q]?.getD 0) = sg (xs[st N q]?.getD 0) := nS_fin (small_fin hsm)
          have hat := fun w => rat_diag C q N HN.out h1 h6 hlt w
          have HAT := Lib.hid hat; clear hat
          generalize hx : xs[st N q]?.getD 0 = x at *
          generalize hp : st N q = p at *
          have HX := Lib.hid hx; have HV := Lib.hid hv; have HPP := Lib.hid hp; have HQN := Lib.hid hqN
          clear hx hv hsm hp hqN
          cases hs : sg x
          · rw [hs] at hn
            go_wp2_with (first
              | (go_at_call 55; refine (HAT.out _).mono ?_; rintro e w' ⟨rfl, rfl⟩)
              | (go_at_call 42; refine (rsplit_any _ HV.out _).mono ?_; rintro e w' ⟨rfl, rfl⟩; unfold splitV; rw [hn]))
            go_roundw
            case rel =>
              have := HQN.out
              refine ⟨q + 1, n, by go_num, by omega, rfl, ?_⟩
              intro k hk
              by_cases hkj : k < q
              · exact HG.out k hkj
              · obtain rfl : k = q := by omega
                rw [HPP.out, HX.out]; exact hs
            case measure => have := HN.out; simp [intOf]; omega
          · rw [hs] at hn
            have hbad : rowsOk N xs = false := by
              rw [Bool.eq_false_iff]
              intro hr
              have h3 := ((rowsOk_iff HL.out.symm).1 hr).2 q HQN.out
              rw [HPP.out, HX.out, hs] at h3
              exact Bool.false_ne_true h3.symm
            have HB := Lib.hid hbad; clear hbad
            go_wp2_with (first
              | (go_at_call 55; refine (HAT.out _).mono ?_; rintro e w' ⟨rfl, rfl⟩)
              | (go_at_call 42; refine (rsplit_any _ HV.out _).mono ?_; rintro e w' ⟨rfl, rfl⟩; unfold splitV; rw [hn]))
            go_ret
            exact ⟨ret_t' HB.out.symm, by rw [KW.out]; exact ((Below.refl _ w).alloc (Nat.le_refl _) _).drewN n⟩
        · have hall : rowsOk N xs = true := (rowsOk_iff HL.out.symm).2 ⟨HS1.out, fun i hi => HG.out i (by have := HN.out; omega)⟩
          have HB := Lib.hid hall; clear hall
          go_wp2
          go_ret
          exact ⟨ret_t' HB.out.symm, by rw [KW.out]; exact ((Below.refl _ w).alloc (Nat.le_refl _) _).drewN n⟩

set_option maxRecDepth 100000 in
set_option maxHeartbeats 1000000 in
theorem rcheck_bad (C : Int) (A : Option Addr) (n c : Nat) (R T : Int) (w : World) (h : headOk C n R T = false) (hn63 : n ≤ 9223372036854775807) :
    Calls Try.prog 31 #[facV C A n c R T] w fun e w' => e = .returned (.bool false) ∧ Below w.heap.size w w' := by
  have hs : (sizeI C = 0) ∨ (1 ≤ C ∧ C ≤ 6 ∧ sizeI C ≠ 0) := by
    by_cases h1 : 1 ≤ C ∧ C ≤ 6
    · exact .inr ⟨h1.1, h1.2, size_ne h1.1 h1.2⟩
    · left; unfold sizeI; rw [if_pos (by omega)]
  unfold headOk at h
  rw [decide_eq_false_iff_not] at h
  have hcases : (sizeI C == 0) = true ∨ ((sizeI C == 0) = false ∧ ((n : Int) != sizeI C) = true) ∨ ((sizeI C == 0) = false ∧ ((n : Int) != sizeI C) = false ∧ decide (R < 0) = true) ∨
      ((sizeI C == 0) = false ∧ ((n : Int) != sizeI C) = false ∧ decide (R < 0) = false ∧ decide (200 < R) = true) ∨
      ((sizeI C == 0) = false ∧ ((n : Int) != sizeI C) = false ∧ decide (R < 0) = false ∧ decide (200 < R) = false ∧ decide (T < 0) = true) ∨
      ((sizeI C == 0) = false ∧ ((n : Int) != sizeI C) = false ∧ decide (R < 0) = false ∧ decide (200 < R) = false ∧ decide (T < 0) = false ∧ decide (4096 < T) = true) := by
    simp only [beq_iff_eq, beq_eq_false_iff_ne, bne_iff_ne, bne_eq_false_iff_eq, decide_eq_true_eq, decide_eq_false_iff_not]
    omega
  clear h hs
  unfold facV
  rcases hcases with d1 | ⟨d1, d2⟩ | ⟨d1, d2, d3⟩ | ⟨d1, d2, d3, d4⟩ | ⟨d1, d2, d3, d4, d5⟩ | ⟨d1, d2, d3, d4, d5, d6⟩
  all_goals
    go_enter Try.func31, Try.ntmps31
    go_wp2_with (go_at_call 61; refine (rsize_any _ _).mono ?_; rintro e w' ⟨rfl, rfl⟩)
    obtain ⟨W, hW⟩ : ∃ W, W = w.alloc (.cells #[.int .i64 C, .slice A n c, .int .i64 R, .int .i64 T] 24) := ⟨_, rfl⟩
    have c0 : W.cell? ⟨w.heap.size, 0, none⟩ = some (.int .i64 C) := by rw [hW]; simp [go_sem]
    have c1 : W.cell? ⟨w.heap.size, 1, none⟩ = some (.slice A n c) := by rw [hW]; simp [go_sem]
    have c2 : W.cell? ⟨w.heap.size, 2, none⟩ = some (.int .i64 R) := by rw [hW]; simp [go_sem]
    have c3 : W.cell? ⟨w.heap.size, 3, none⟩ = some (.int .i64 T) := by rw [hW]; simp [go_sem]
    rw [← hW]
    have KW := Lib.hid hW; clear hW
    go_quiet (first | (go_at_call 61; exact q_of (rsize_any _ _)))
    go_wp2
    go_ret
    exact ⟨rfl, by rw [KW.out]; exact ((Below.refl _ w).alloc (Nat.le_refl _) _).drewN nq⟩

/-- The document's answer: whether a factor may be. -/
theorem rcheck_any (C : Int) (A : Option Addr) (xs : List Nat) (c : Nat) (R T : Int) (w : World) (hx : SlArg w A xs c) :
    Calls Try.prog 31 #[facV C A xs.length c R T] w fun e w' => e = .returned (.bool (checkS C xs R T)) ∧ Below w.heap.size w w' := by
  unfold checkS
  cases h : headOk C xs.length R T
  · rw [Bool.false_and]
    exact rcheck_bad C A xs.length c R T w h (Nat.le_trans hx.cap hx.room)
  · rw [Bool.true_and]
    have h' := h
    unfold headOk at h'
    rw [decide_eq_true_eq] at h'
    obtain ⟨h1, h6, hsz, hR0, hR1, hT0, hT1⟩ := h'
    obtain ⟨N, hN⟩ : ∃ N : Nat, (N : Int) = C + 1 := ⟨(C + 1).toNat, by omega⟩
    have hNe : (C + 1).toNat = N := by omega
    have hpos : 0 < xs.length := by
      have := size_st h1 h6 hN
      have := st_all N
      have h3 : 2 ≤ N := by omega
      have := Nat.mul_le_mul h3 h3
      omega
    obtain ⟨b, off, rfl, hb, hc⟩ := hx.reads.2 hpos
    rw [hNe]
    exact rcheck_rows C N hN b off xs c R T w hb hx.reads.1 hc h1 h6 hsz hR0 hR1 hT0 hT1

end Go.Proofs.Ytigacobphgeeaaa

/- Lists and factors that are the same: the document's answer. -/
namespace Go.Proofs.Ytigacobphgeeaaa
open Go.RowKit Go.Shelf Lev

theorem sameS_self (x : Nat) : sameS x x = true := by unfold sameS; exact beq_self_eq_true _

set_option maxHeartbeats 400000 in
theorem all_same (A A2 : Option Addr) (xs : List Nat) (c c2 : Nat) (w : World) (h : SlArg w A xs c) (h2 : SlArg w A2 xs c2) :
    Calls Try.prog 16 #[.slice A xs.length c, .slice A2 xs.length c2] w fun e w' => e = .returned (.bool true) ∧ ∃ n, w' = w.drewN n := by
  have hl : xs.length ≤ 9223372036854775807 := Nat.le_trans h.cap h.room
  go_enter Try.func16, Try.ntmps16
  go_wp2
  go_loopw [5] (fun i wr => ∃ j n : Nat, i = .int .i64 (j : Int) ∧ j ≤ xs.length ∧ wr = w.drewN n) (fun i _ => xs.length - (intOf i).toNat)
  case atStart => exact ⟨0, 0, rfl, Nat.zero_le _, rfl⟩
  case round =>
    obtain ⟨j, n, rfl, hj, rfl⟩ := hrel
    by_cases hlt : (j : Int) < (xs.length : Int)
    · obtain ⟨b, off, rfl, hb, hc⟩ := h.reads.2 (by omega)
      obtain ⟨b2, off2, rfl, hb2, hc2⟩ := h2.reads.2 (by omega)
      have hcj := hc j (by omega)
      have hcj2 := hc2 j (by omega)
      have hv : xs[j]?.getD 0 < 18446744073709551616 := by
        rw [List.getElem?_eq_getElem (by omega)]; exact h.reads.1 _ (List.getElem_mem _)
      have HV := Lib.hid hv; clear hv
      have hss := sameS_self (xs[j]?.getD 0)
      have hD1 : (w.drewN n).cell? ⟨b, off + j, none⟩ = some (.float .f64 (xs[j]?.getD 0)) := by rw [World.cell?_drewN]; exact hcj
      have hD2 : (w.drewN n).cell? ⟨b2, off2 + j, none⟩ = some (.float .f64 (xs[j]?.getD 0)) := by rw [World.cell?_drewN]; exact hcj2
      generalize xs[j]?.getD 0 = x at *
      obtain ⟨W, hW⟩ : ∃ W, W = w.drewN n := ⟨_, rfl⟩
      rw [← hW] at hD1 hD2 ⊢
      have KW := Lib.hid hW; clear hW
      go_wp2
      go_quiet (first | (go_at_call 17; exact q_of (rsame_any _ _ HV.out HV.out _)))
      go_wp2
      go_roundw
      case rel => exact ⟨j + 1, n + nq, by go_num, by omega, by rw [KW.out, World.drewN_drewN]⟩
      case measure => simp [intOf]; omega
    · go_wp2
      go_ret
      exact ⟨rfl, n, rfl⟩

end Go.Proofs.Ytigacobphgeeaaa

/- Contracts of package tri: At, New, Get. -/
namespace Go.Proofs.Ytigacobphgeeaaa
open Go.RowKit Go.Shelf Lev

set_option maxHeartbeats 400000 in
theorem before_any (C i : Int) (N : Nat) (hN : (N : Int) = C + 1) (h1 : 1 ≤ C) (h6 : C ≤ 6) (hi : 0 ≤ i) (hiC : i ≤ C) (w : World) :
    Calls Try.prog 102 #[.int .i64 C, .int .i64 i] w fun e w' => e = .returned (.int .i64 (st N i.toNat : Int)) ∧ w = w' := by
  have hb := before_st (N := N) (i := i.toNat) (by omega) (by omega)
  have hI : ((i.toNat : Nat) : Int) = i := by omega
  rw [hI] at hb
  rcases (by omega : C = 1 ∨ C = 2 ∨ C = 3 ∨ C = 4 ∨ C = 5 ∨ C = 6) with h | h | h | h | h | h
  all_goals
    subst h
    rcases (by omega : i = 0 ∨ i = 1 ∨ i = 2 ∨ i = 3 ∨ i = 4 ∨ i = 5 ∨ i = 6) with h | h | h | h | h | h | h
    all_goals
      subst h
      first
      | (exfalso; omega)
      | (obtain rfl : N = _ := by first | exact (by omega : N = 2) | exact (by omega : N = 3) | exact (by omega : N = 4) | exact (by omega : N = 5) | exact (by omega : N = 6) | exact (by omega : N = 7)
         clear hb hI hi hiC h1 h6 hN
         go_enter Try.func102, Try.ntmps102
         go_wp2
         go_ret
         exact ⟨rfl, rfl⟩)

set_option maxHeartbeats 400000 in
theorem at_any (C i j : Int) (w : World) :
    Calls Try.prog 96 #[.int .i64 C, .int .i64 i, .int .i64 j] w fun e w' => e = .returned (.tuple #[.int .i64 (atI C i j), .bool (atB C i j)]) ∧ w = w' := by
  cases h : atB C i j
  · have hI : atI C i j = 0 := by unfold atI; rw [h, if_neg (by decide)]
    rw [hI]
    have h' : ¬ (1 ≤ C ∧ C ≤ 6 ∧ 0 ≤ i ∧ i ≤ j ∧ j ≤ C) := by unfold atB at h; simpa using h
    by_cases h1 : sizeI C = 0
    · have d1 : (sizeI C == 0) = true := by rw [beq_iff_eq]; exact h1
      clear h h' h1 hI
      go_enter Try.func96, Try.ntmps96
      go_wp2_with (go_at_call 65; refine (size_any _ _).mono ?_; rintro e w' ⟨rfl, rfl⟩)
      go_ret2
      exact ⟨rfl, rfl⟩
    · have d1 : (sizeI C == 0) = false := by rw [beq_eq_false_iff_ne]; exact h1
      have hC : 1 ≤ C ∧ C ≤ 6 := by
        unfold sizeI at h1
        by_cases h2 : C < 1 ∨ 6 < C
        · rw [if_pos h2] at h1; exact absurd rfl h1
        · omega
      have hc : i < 0 ∨ (¬ i < 0 ∧ j < i) ∨ (¬ i < 0 ∧ ¬ j < i ∧ C < j) := by omega
      clear h h' h1 hI
      rcases hc with e1 | ⟨e1, e2⟩ | ⟨e1, e2, e3⟩
      all_goals
        go_enter Try.func96, Try.ntmps96
        go_wp2_with (go_at_call 65; refine (size_any _ _).mono ?_; rintro e w' ⟨rfl, rfl⟩)
        go_ret2
        exact ⟨rfl, rfl⟩
  · obtain ⟨h1, h2, h3, h4, h5⟩ := atB_iff.1 h
    have hI : atI C i j = (st (C + 1).toNat i.toNat : Int) + (j - i) := by unfold atI; rw [if_pos h]
    rw [hI]
    have d1 : (sizeI C == 0) = false := by rw [beq_eq_false_iff_ne]; exact size_ne h1 h2
    have e1 : decide (i < 0) = false := decide_eq_false (by omega)
    have e2 : decide (j < i) = false := decide_eq_false (by omega)
    have e3 : decide (C < j) = false := decide_eq_false (by omega)
    have hb : st (C + 1).toNat i.toNat ≤ 49 := by
      have h3 := st_le (N := (C + 1).toNat) (k := i.toNat) (m := (C + 1).toNat) (by omega)
      have h4 := st_all (C + 1).toNat
      have h5 : (C + 1).toNat ≤ 7 := by omega
      have h6 := Nat.mul_le_mul h5 h5
      omega
    have HB := Lib.hid (fun w => before_any C i (C + 1).toNat (by omega) h1 h2 (by omega) (by omega) w)
    clear h hI
    generalize st (C + 1).toNat i.toNat = s at *
    go_enter Try.func96, Try.ntmps96
    go_wp2_with (first
      | (go_at_call 65; refine (size_any _ _).mono ?_; rintro e w' ⟨rfl, rfl⟩)
      | (go_at_call 102; refine (HB.out _).mono ?_; rintro e w' ⟨rfl, rfl⟩))
    go_ret2
    exact ⟨ret_ib (by omega) rfl, rfl⟩

theorem rat_any (C i j : Int) (w : World) :
    Calls Try.prog 55 #[.int .i64 C, .int .i64 i, .int .i64 j] w fun e w' => e = .returned (.tuple #[.int .i64 (atI C i j), .bool (atB C i j)]) ∧ w = w' := by
  cases h : atB C i j
  · have hI : atI C i j = 0 := by unfold atI; rw [h, if_neg (by decide)]
    rw [hI]
    have h' : ¬ (1 ≤ C ∧ C ≤ 6 ∧ 0 ≤ i ∧ i ≤ j ∧ j ≤ C) := by unfold atB at h; simpa using h
    refine rat_no C i j ?_ w
    by_cases h2 : C < 1 ∨ 6 < C
    · left; unfold sizeI; rw [if_pos h2]
    · omega
  · obtain ⟨h1, h2, h3, h4, h5⟩ := atB_iff.1 h
    have hI : atI C i j = (st (C + 1).toNat i.toNat : Int) + (j - i) := by unfold atI; rw [if_pos h]
    rw [hI]
    exact rat_yes C i j (C + 1).toNat (by omega) h1 h2 h3 h4 h5 w

theorem info_f64' : (Try.prog.info? 29).map (fun i => (i.zero, i.size, i.bytes)) = some (some (.float .f64 0), 1, 8) := by kernel_rfl

set_option maxRecDepth 100000 in
set_option maxHeartbeats 1000000 in
theorem get_any (f : Fct) (A : Option Addr) (c : Nat) (i j : Int) (w : World) (hx : SlArg w A f.xs c) :
    Calls Try.prog 90 #[facV f.C A f.xs.length c f.R f.T, .int .i64 i, .int .i64 j] w fun e w' => e = .returned (.float .f64 (getS f i j)) ∧ Below w.heap.size w w' := by
  have HX := Lib.hid hx
  have HCK := Lib.hid (fun W hW => check_any f.C A f.xs c f.R f.T W hW)
  have HAT := Lib.hid (fun w => at_any f.C i j w)
  unfold facV at HCK ⊢
  cases h : atB f.C i j
  · have hg : getS f i j = 0 := by unfold getS; rw [h]; rfl
    rw [hg]; rw [h] at HAT
    clear hg h hx
    generalize atI f.C i j = p at *
    go_enter Try.func90, Try.ntmps90
    go_wp2_with (go_at_call 96; refine (HAT.out _).mono ?_; rintro e w' ⟨rfl, rfl⟩)
    go_ret
    exact ⟨rfl, (Below.refl w.heap.size w).alloc (Nat.le_refl _) _⟩
  · obtain ⟨k1, k2, k3, k4, k5⟩ := atB_iff.1 h
    have hp : atI f.C i j = (st (f.C + 1).toNat i.toNat : Int) + (j - i) := by unfold atI; rw [if_pos h]
    have hp0 : 0 ≤ atI f.C i j := by omega
    rw [h] at HAT
    cases hok : f.ok
    · have hg : getS f i j = 0 := by unfold getS; rw [hok, Bool.and_false]; rfl
      rw [hg]; rw [show checkS f.C f.xs f.R f.T = false from hok] at HCK
      clear hg h hx hp hok k1 k2 k3 k4 k5
      generalize atI f.C i j = p at *
      go_enter Try.func90, Try.ntmps90
      go_wp2_with (go_at_call 96; refine (HAT.out _).mono ?_; rintro e w' ⟨rfl, rfl⟩)
      refine named ?_
      intro W hW
      obtain ⟨b0, hbW, hsz⟩ := boxes1 hW
      clear hW
      refine (HCK.out W (HX.out.below hbW)).mono ?_
      rintro e w1 ⟨rfl, hb1⟩
      have hB := hbW.trans (hb1.mono (by omega))
      clear hb1 hbW b0
      go_wp2
      go_ret
      exact ⟨rfl, hB⟩
    · have hl := ok_len hok
      have hst := st_in (N := (f.C + 1).toNat) (i := i.toNat) (d := j.toNat - i.toNat) (by omega) (by omega)
      have hlt : (atI f.C i j).toNat < f.xs.length := by omega
      have hg : getS f i j = f.xs[(atI f.C i j).toNat]?.getD 0 := by unfold getS; rw [h, hok]; rfl
      rw [hg]; rw [show checkS f.C f.xs f.R f.T = true from hok] at HCK
      have hl63 : f.xs.length ≤ 9223372036854775807 := Nat.le_trans hx.cap hx.room
      have HOK := Lib.hid hok
      clear hg h hp hl hst hok
      obtain ⟨q, hq⟩ : ∃ q : Nat, atI f.C i j = (q : Int) := ⟨_, (Int.toNat_of_nonneg hp0).symm⟩
      rw [hq, Int.toNat_natCast] at hlt ⊢
      rw [hq] at HAT
      clear hq hp0
      go_enter Try.func90, Try.ntmps90
      go_wp2_with (go_at_call 96; refine (HAT.out _).mono ?_; rintro e w' ⟨rfl, rfl⟩)
      refine named ?_
      intro W hW
      obtain ⟨b0, hbW, hsz⟩ := boxes1 hW
      clear hW
      refine (HCK.out W (HX.out.below hbW)).mono ?_
      rintro e w1 ⟨rfl, hb1⟩
      have hB := Lib.hid (hbW.trans (hb1.mono (by omega)))
      have b1 := b0.below hb1 (by omega)
      obtain ⟨r0, r1, r2, r3⟩ := b1.c4
      obtain ⟨b, off, hA, hbb, hc⟩ := ((HX.out.below hbW).below hb1).reads.2 (by omega)
      have hcell := hc q hlt
      subst hA
      clear hb1 hbW b0 b1 hc hx
      have hlt' : (q : Int) < (f.xs.length : Int) := by omega
      generalize hv : f.xs[q]?.getD 0 = x at hcell
      have HV := Lib.hid hv; clear hv
      go_wp2
      go_ret
      exact ⟨by rw [HV.out]; rfl, hB.out⟩

set_option maxRecDepth 100000 in
set_option maxHeartbeats 1000000 in
theorem rget_any (f : Fct) (A : Option Addr) (c : Nat) (i j : Int) (w : World) (hx : SlArg w A f.xs c) :
    Calls Try.prog 23 #[facV f.C A f.xs.length c f.R f.T, .int .i64 i, .int .i64 j] w fun e w' => e = .returned (.float .f64 (getS f i j)) ∧ Below w.heap.size w w' := by
  have HX := Lib.hid hx
  have HCK := Lib.hid (fun W hW => rcheck_any f.C A f.xs c f.R f.T W hW)
  have HAT := Lib.hid (fun w => rat_any f.C i j w)
  unfold facV at HCK ⊢
  cases h : atB f.C i j
  · have hg : getS f i j = 0 := by unfold getS; rw [h]; rfl
    rw [hg]; rw [h] at HAT
    clear hg h hx
    generalize atI f.C i j = p at *
    cases hok : checkS f.C f.xs f.R f.T
    all_goals
      rw [hok] at HCK
      clear hok
      go_enter Try.func23, Try.ntmps23
      go_wp2_with (go_at_call 55; refine (HAT.out _).mono ?_; rintro e w' ⟨rfl, rfl⟩)
      refine named ?_
      intro W hW
      obtain ⟨b0, hbW, hsz⟩ := boxes1 hW
      clear hW
      refine (HCK.out W (HX.out.below hbW)).mono ?_
      rintro e w1 ⟨rfl, hb1⟩
      have hB := hbW.trans (hb1.mono (by omega))
      clear hb1 hbW b0
      go_wp2
      go_ret
      exact ⟨rfl, hB⟩
  · obtain ⟨k1, k2, k3, k4, k5⟩ := atB_iff.1 h
    have hp : atI f.C i j = (st (f.C + 1).toNat i.toNat : Int) + (j - i) := by unfold atI; rw [if_pos h]
    have hp0 : 0 ≤ atI f.C i j := by omega
    rw [h] at HAT
    cases hok : f.ok
    · have hg : getS f i j = 0 := by unfold getS; rw [hok, Bool.and_false]; rfl
      rw [hg]; rw [show checkS f.C f.xs f.R f.T = false from hok] at HCK
      clear hg h hx hp hok k1 k2 k3 k4 k5
      generalize atI f.C i j = p at *
      go_enter Try.func23, Try.ntmps23
      go_wp2_with (go_at_call 55; refine (HAT.out _).mono ?_; rintro e w' ⟨rfl, rfl⟩)
      refine named ?_
      intro W hW
      obtain ⟨b0, hbW, hsz⟩ := boxes1 hW
      clear hW
      refine (HCK.out W (HX.out.below hbW)).mono ?_
      rintro e w1 ⟨rfl, hb1⟩
      have hB := hbW.trans (hb1.mono (by omega))
      clear hb1 hbW b0
      go_wp2
      go_ret
      exact ⟨rfl, hB⟩
    · have hl := ok_len hok
      have hst := st_in (N := (f.C + 1).toNat) (i := i.toNat) (d := j.toNat - i.toNat) (by omega) (by omega)
      have hlt : (atI f.C i j).toNat < f.xs.length := by omega
      have hg : getS f i j = f.xs[(atI f.C i j).toNat]?.getD 0 := by unfold getS; rw [h, hok]; rfl
      rw [hg]; rw [show checkS f.C f.xs f.R f.T = true from hok] at HCK
      have hl63 : f.xs.length ≤ 9223372036854775807 := Nat.le_trans hx.cap hx.room
      have HOK := Lib.hid hok
      clear hg h hp hl hst hok
      obtain ⟨q, hq⟩ : ∃ q : Nat, atI f.C i j = (q : Int) := ⟨_, (Int.toNat_of_nonneg hp0).symm⟩
      rw [hq, Int.toNat_natCast] at hlt ⊢
      rw [hq] at HAT
      clear hq hp0
      go_enter Try.func23, Try.ntmps23
      go_wp2_with (go_at_call 55; refine (HAT.out _).mono ?_; rintro e w' ⟨rfl, rfl⟩)
      refine named ?_
      intro W hW
      obtain ⟨b0, hbW, hsz⟩ := boxes1 hW
      clear hW
      refine (HCK.out W (HX.out.below hbW)).mono ?_
      rintro e w1 ⟨rfl, hb1⟩
      have hB := Lib.hid (hbW.trans (hb1.mono (by omega)))
      have b1 := b0.below hb1 (by omega)
      obtain ⟨r0, r1, r2, r3⟩ := b1.c4
      obtain ⟨b, off, hA, hbb, hc⟩ := ((HX.out.below hbW).below hb1).reads.2 (by omega)
      have hcell := hc q hlt
      subst hA
      clear hb1 hbW b0 b1 hc hx
      have hlt' : (q : Int) < (f.xs.length : Int) := by omega
      generalize hv : f.xs[q]?.getD 0 = x at hcell
      have HV := Lib.hid hv; clear hv
      go_wp2
      go_ret
      exact ⟨by rw [HV.out]; rfl, hB.out⟩

set_option maxRecDepth 100000 in
set_option maxHeartbeats 1000000 in
theorem has_any (f : Fct) (A : Option Addr) (c : Nat) (i : Int) (w : World) (hx : SlArg w A f.xs c) :
    Calls Try.prog 88 #[facV f.C A f.xs.length c f.R f.T, .int .i64 i] w fun e w' => e = .returned (.bool (hasS f i)) ∧ Below w.heap.size w w' := by
  have HX := Lib.hid hx
  have HCK := Lib.hid (fun W hW => check_any f.C A f.xs c f.R f.T W hW)
  unfold facV at HCK ⊢
  clear hx
  unfold hasS
  cases hok : f.ok
  all_goals
    rw [show checkS f.C f.xs f.R f.T = _ from hok] at HCK
    clear hok
    go_enter Try.func88, Try.ntmps88
    go_wp2_with fail
    refine named ?_
    intro W hW
    obtain ⟨b0, hbW, hsz⟩ := boxes1 hW
    clear hW
    refine (HCK.out W (HX.out.below hbW)).mono ?_
    rintro e w1 ⟨rfl, hb1⟩
    have hB := hbW.trans (hb1.mono (by omega))
    have b1 := b0.below hb1 (by omega)
    obtain ⟨r0, r1, r2, r3⟩ := b1.c4
    clear hb1 hbW b0 b1
  · go_wp2
    go_ret
    exact ⟨rfl, hB⟩
  · by_cases h1 : 0 ≤ i
    · go_wp2
      go_ret
      exact ⟨ret_t (by rw [Bool.true_and, decide_eq_decide]; omega), hB⟩
    · go_wp2
      go_ret
      exact ⟨ret_t (by rw [decide_eq_false (show ¬ 0 ≤ i by omega), Bool.false_and]), hB⟩

end Go.Proofs.Ytigacobphgeeaaa

/- The document's answer: a row of a factor. -/
namespace Go.Proofs.Ytigacobphgeeaaa
open Go.RowKit Go.Shelf Lev

theorem take_map (g : Nat → Nat) (j : Nat) : ((List.range (j + 1)).map g).map (Value.float .f64) = ((List.range j).map g).map (Value.float .f64) ++ [.float .f64 (g j)] := by
  rw [List.range_succ, List.map_append, List.map_append]; rfl

theorem madeF_nil (base : Nat) (w : World) : MadeF base w (.slice none 0 0) [] := ⟨none, 0, rfl, ⟨FlR.nil _ _ _, Nat.le_refl _, by decide⟩, fun a ha => by cases ha⟩

set_option maxRecDepth 100000 in
set_option maxHeartbeats 1000000 in
theorem rline_any (f : Fct) (A : Option Addr) (c : Nat) (i : Int) (w : World) (hx : SlArg w A f.xs c) :
    Calls Try.prog 72 #[facV f.C A f.xs.length c f.R f.T, .int .i64 i] w fun e w' => (∃ v, e = .returned v ∧ MadeF w.heap.size w' v (lineS f i)) ∧ Below w.heap.size w w' := by
  have HX := Lib.hid hx
  have HCK := Lib.hid (fun W hW => rcheck_any f.C A f.xs c f.R f.T W hW)
  unfold facV at HCK ⊢
  cases hh : hasS f i
  · have hL : lineS f i = [] := by unfold lineS; rw [hh, if_neg (by decide)]
    rw [hL]
    have hcs : (f.ok = false) ∨ (f.ok = true ∧ (i < 0 ∨ (¬ i < 0 ∧ f.C < i))) := by
      cases hok : f.ok
      · exact .inl rfl
      · refine .inr ⟨rfl, ?_⟩
        unfold hasS at hh
        rw [hok, Bool.true_and, decide_eq_false_iff_not] at hh
        omega
    clear hL hh hx
    rcases hcs with hok | ⟨hok, h1 | ⟨h1, h2⟩⟩
    all_goals
      rw [show checkS f.C f.xs f.R f.T = _ from hok] at HCK
      clear hok
      go_enter Try.func72, Try.ntmps72
      go_wp2_with fail
      refine named ?_
      intro W hW
      obtain ⟨b0, hbW, hsz⟩ := boxes1 hW
      clear hW
      refine (HCK.out W (HX.out.below hbW)).mono ?_
      rintro e w1 ⟨rfl, hb1⟩
      have hB := hbW.trans (hb1.mono (by omega))
      have b1 := b0.below hb1 (by omega)
      obtain ⟨r0, r1, r2, r3⟩ := b1.c4
      clear hb1 hbW b0 b1
      go_wp2
      go_ret
      exact ⟨⟨_, rfl, madeF_nil _ _⟩, hB⟩
  · obtain ⟨hok, h1, h2⟩ := hasS_iff.1 hh
    have hC6 := (ok_len hok).2.1
    have hC1 := (ok_len hok).1
    rw [show checkS f.C f.xs f.R f.T = true from hok] at HCK
    obtain ⟨i0, hi, hz0, hz1, hz2⟩ := info_parts info_f64'
    have HH := Lib.hid hh; have HOK := Lib.hid hok
    have h1' : ¬ i < 0 := by omega
    have h2' : ¬ f.C < i := by omega
    clear hh hok hx
    go_enter Try.func72, Try.ntmps72
    go_wp2_with fail
    refine named ?_
    intro W hW
    obtain ⟨b0, hbW, hsz⟩ := boxes1 hW
    clear hW
    refine (HCK.out W (HX.out.below hbW)).mono ?_
    rintro e w1 ⟨rfl, hb1⟩
    have hB := hbW.trans (hb1.mono (by omega))
    have b1 := b0.below hb1 (by omega)
    obtain ⟨r0, r1, r2, r3⟩ := b1.c4
    clear hb1 hbW b0
    go_wp2
    go_loopw [5, 6] (fun v j wr => ∃ k : Nat, (k : Int) ≤ f.C + 1 ∧ j = .int .i64 (k : Int) ∧ wr.ownsRow (w.heap.size + 1) 29 1 v k (((List.range k).map (fun j : Nat => getS f i j)).map (Value.float .f64)) ∧
        Bk wr w.heap.size 24 #[.int .i64 f.C, .slice A f.xs.length c, .int .i64 f.R, .int .i64 f.T] ∧ Below w.heap.size w wr) (fun _ j _ => (f.C + 1 - intOf j).toNat)
    case atStart => exact ⟨0, by omega, rfl, World.ownsRow_nil _ _ _ _, b1, hB⟩
    case round =>
      obtain ⟨k, hk, rfl, hown, bk, hbr⟩ := hrel
      have hxr := HX.out.below hbr
      clear b1 hB r0 r1 r2 r3
      obtain ⟨r0, r1, r2, r3⟩ := bk.c4
      by_cases hlt : (k : Int) ≤ f.C
      · have hget := rget_any f A c i (k : Int) wr hxr
        unfold facV at hget
        have HG := Lib.hid hget; clear hget
        have hbk := bk.lt
        go_wp2_with fail
        refine HG.out.mono ?_
        rintro e w2 ⟨rfl, hb2⟩
        have hown2 := own_below hown hb2
        have hsz2 := hb2.size
        have bk2 := bk.below hb2 bk.lt
        have hB2 := hbr.trans (hb2.mono hbr.size)
        have KT := Lib.hid (take_map (fun j : Nat => getS f i j) k)
        clear hb2 hown bk hxr r0 r1 r2 r3
        generalize getS f i k = x at *
        go_wp2_with (at_builtin; refine wpList_append_own _ rfl _ _ 22 rfl (w.heap.size + 1) 29 i0 (.float .f64 0) 1 8 Try.underlying22 hi hz0 hz1 hz2 rfl (by decide) _ _ _ rfl (hown2.alloc _) ⟨w2.heap.size, 0, none⟩ 1 1 [.float .f64 x] rfl rfl (cell_one_new _ _ _) (by simp [Value.oneCell']) (by unfold maxLen; omega) (by omega) (by simp; omega) ?_; intro v' w3 hown' hgrow _)
        go_roundw
        case rel =>
          refine ⟨k + 1, by omega, by go_num, by rw [KT.out]; exact hown', ?_, ?_⟩
          · exact (hgrow.block _ (by have := bk2.lt; simp; omega) (fun h => by have := (hown2.lt _ h.symm).1; omega)).trans (bk2.alloc _)
          · exact (hB2.alloc hB2.size _).grown hgrow (by have := hB2.size; simp; omega) (fun g hg => by have := (hown2.lt g hg).1; omega)
        case measure => simp [intOf]; omega
      · have hkN : k = (f.C + 1).toNat := by omega
        have hown2 := hown
        rw [hkN, lineS_range HH.out] at hown2
        have hln := lineS_length HH.out
        rw [← hln] at hown2
        have hmade := made_of_own hown2 (fun y hy => by
          rw [← lineS_range HH.out, List.mem_map] at hy
          obtain ⟨q, _, rfl⟩ := hy
          exact getS_lt HX.out.reads.1 _ _)
        have KM := Lib.hid hmade
        clear hmade hown hown2 hln hkN
        go_wp2
        go_ret
        obtain ⟨A2, c2, e2, s2, l2⟩ := KM.out
        exact ⟨⟨_, rfl, A2, c2, e2, s2, fun a ha => by have := l2 a ha; omega⟩, hbr⟩

end Go.Proofs.Ytigacobphgeeaaa

/- A row of a factor: tri.Line. -/
namespace Go.Proofs.Ytigacobphgeeaaa
open Go.RowKit Go.Shelf Lev

attribute [local go_sem] Oper.semAt_some

theorem namedIn {F : Fence} {n : Nat} {P : Program} {f : FuncId} {args : Array Value} {w : World} {Q : Ending → World → Prop} (h : ∀ W, W = w → CallsIn F n P f args W Q) : CallsIn F n P f args w Q := h w rfl

/-- A row of a number of zeros, with room. -/
theorem own_made (w : World) (e : TypeId) (i c : Nat) (h : i ≤ c) (hc : c ≤ 9223372036854775807) {base : Nat} (hb : base ≤ w.heap.size) :
    (w.alloc (.cells (madeCells #[.float .f64 0] c) e)).ownsRow base e 1 (.slice (some ⟨w.heap.size, 0, none⟩) i c) i (List.replicate i (.float .f64 0)) := by
  refine ⟨by simp, .inr ⟨w.heap.size, c, madeCells #[.float .f64 0] c, rfl, hb, heap_alloc_new w _, h, by unfold maxLen; exact hc, by rw [size_madeCells, Nat.mul_one], ?_⟩⟩
  refine List.ext_getElem (by simp [size_madeCells]; omega) fun j h1 h2 => ?_
  simp [madeCells, Nat.mod_one]

theorem boxed_kept {X Y : World} {row : Option Nat} {g : Nat} {t : TypeId} {v : Value} (h : Boxed X g t v) (hg : X.grownBy Y row) (hr : ∀ r, row = some r → ∃ o : Obj, X.heap[r]? = some o ∧ o.isCells = false) : Boxed Y g t v :=
  h.kept hg fun e' => by
    obtain ⟨o, ho, hc⟩ := hr g e'.symm
    rw [show X.heap[g]? = _ from h] at ho; cases ho; cases hc

theorem own_cells {W : World} {base : Nat} {e : TypeId} {size k : Nat} {v : Value} {xs : List Value} (h : W.ownsRow base e size v k xs) : ∀ (j : Nat) (o : Obj), v.ownBlock = some j → W.heap[j]? = some o → o.isCells = true := by
  intro j o ej hj
  rcases h.2 with ⟨rfl, _⟩ | ⟨g, cap, cur, rfl, _, hgb, _⟩
  · simp [Value.ownBlock] at ej
  · obtain rfl : g = j := by simpa [Value.ownBlock] using ej
    rw [hgb] at hj; cases hj; rfl

/-- An append onto a row in a variable's box, no cell laid for it. -/
theorem appended0 {W w1 : World} {n₀ B : Nat} {t e : TypeId} {size : Nat} {v v' : Value} {k m : Nat} {xs ys : List Value}
    (hv : Boxed W B t v) (hte : t ≠ e) (hrow : W.ownsRow n₀ e size v k xs) (hn₀ : n₀ ≤ W.heap.size) (hB : n₀ ≤ B)
    (hown' : w1.ownsRow n₀ e size v' m ys) (hgrow : W.grownBy w1 v.ownBlock) :
    Boxed w1 B t v ∧ Boxed (w1.setCell ⟨B, 0, none⟩ v') B t v' ∧ (w1.setCell ⟨B, 0, none⟩ v').ownsRow n₀ e size v' m ys ∧ KeepsOthers W (w1.setCell ⟨B, 0, none⟩ v') ∧ Below n₀ W (w1.setCell ⟨B, 0, none⟩ v') := by
  have hv1 : Boxed w1 B t v := hv.kept hgrow (hv.not_row hte hrow)
  refine ⟨hv1, hv1.set v', hown'.kept (grownBy_setCell' w1 B v') (.inr (hv1.not_row hte hown').symm), ?_, ?_⟩
  · exact (KeepsOthers.of_grownBy hgrow (own_cells hrow)).trans (KeepsOthers.setCell _ _ _)
  · exact ((Below.refl n₀ W).grown hgrow hn₀ fun j ej => (hrow.lt j ej).1).setCell (p := ⟨B, 0, none⟩) hB v'

/-- The number of the row that came last. -/
def lastx {N : Nat} (pre : List (Fin N)) : Nat := match pre.getLast? with | some x => x.1 | none => 0
theorem lastx_snoc {N : Nat} (pre : List (Fin N)) (x : Fin N) : lastx (pre ++ [x]) = x.1 := by unfold lastx; rw [List.getLast?_concat]
theorem lastx_take {N k : Nat} (hk : k < N) : lastx ((List.finRange N).take (k + 1)) = k := by rw [take_fin hk, lastx_snoc]

def rowV (N : Nat) (xs : List Nat) (k : Nat) : List Value := ((xs.drop (st N k)).take (N - k)).map (Value.float .f64)
theorem rowV_length {N k : Nat} {xs : List Nat} (hk : k < N) (hl : xs.length = st N N) : (rowV N xs k).length = N - k := by
  have := st_end hk
  rw [st_succ] at this
  unfold rowV
  rw [List.length_map, List.length_take, List.length_drop]; omega
theorem rowV_get {N k j : Nat} {xs : List Nat} {u : Value} (h : (rowV N xs k)[j]? = some u) : st N k + j < xs.length ∧ j < N - k ∧ u = .float .f64 (xs[st N k + j]?.getD 0) := by
  unfold rowV at h
  rw [List.getElem?_map] at h
  cases h2 : ((xs.drop (st N k)).take (N - k))[j]? with
  | none => rw [h2] at h; cases h
  | some y =>
    rw [h2] at h
    have hj := (List.getElem?_eq_some_iff.1 h2).1
    rw [List.length_take, List.length_drop] at hj
    rw [List.getElem?_take_of_lt (by omega), List.getElem?_drop] at h2
    refine ⟨by omega, by omega, ?_⟩
    rw [h2]; cases h; rfl

set_option maxRecDepth 100000 in
set_option maxHeartbeats 4000000 in
theorem line_any (f : Fct) (A : Option Addr) (c : Nat) (i : Int) (w : World) (hx : SlArg w A f.xs c) :
    Calls Try.prog 69 #[facV f.C A f.xs.length c f.R f.T, .int .i64 i] w fun e w' => (∃ v, e = .returned v ∧ MadeF w.heap.size w' v (lineS f i)) ∧ Below w.heap.size w w' := by
  have HX := Lib.hid hx
  have HH := Lib.hid (fun W hW => has_any f A c i W hW)
  unfold facV at HH ⊢
  cases hh : hasS f i
  · have hL : lineS f i = [] := by unfold lineS; rw [hh, if_neg (by decide)]
    rw [hL]
    rw [hh] at HH
    clear hL hh hx
    go_enter Try.func69, Try.ntmps69
    go_wp2_with fail
    refine named ?_
    intro W hW
    obtain ⟨b0, b1, hbW, hsz⟩ := boxes2 hW
    clear hW
    refine (HH.out W (HX.out.below hbW)).mono ?_
    rintro e w1 ⟨rfl, hb1⟩
    have hB := hbW.trans (hb1.mono (by omega))
    clear hb1 hbW b0 b1
    go_wp2
    go_ret
    exact ⟨⟨_, rfl, madeF_nil _ _⟩, hB⟩
  · obtain ⟨hok, h1, h2⟩ := hasS_iff.1 hh
    have hC6 := (ok_len hok).2.1
    have hC1 := (ok_len hok).1
    have hlen := (ok_len hok).2.2.1
    rw [hh] at HH
    obtain ⟨N, hN⟩ : ∃ N : Nat, (N : Int) = f.C + 1 := ⟨(f.C + 1).toNat, by omega⟩
    have hNe : (f.C + 1).toNat = N := by omega
    rw [hNe] at hlen
    obtain ⟨q, hq⟩ : ∃ q : Nat, i = (q : Int) := ⟨i.toNat, by omega⟩
    subst hq
    have hpos : 0 < f.xs.length := by
      have := st_all N
      have h3 : 2 ≤ N := by omega
      have := Nat.mul_le_mul h3 h3
      omega
    obtain ⟨b, off, hA, hbb, hcell⟩ := hx.reads.2 hpos
    subst hA
    obtain ⟨i0, hi, hz0, hz1, hz2⟩ := info_parts info_f64'
    have hmk := fun w => run_make (P := Try.prog) w 22 29 i0 (.float .f64 0) Try.underlying22 hi hz0 .i64 .i64 (q : Int) (f.C + 1) (by omega) (by omega) (by rw [hz2]; omega) (by omega)
    have hcl : (Value.float .f64 0).cells = #[.float .f64 0] := rfl
    have hCn : (f.C + 1).toNat * i0.size = N := by rw [hz1, hNe, Nat.mul_one]
    rw [hcl, hCn, Int.toNat_natCast, hNe] at hmk
    have HMK := Lib.hid hmk
    have HOK := Lib.hid hok; have HHS := Lib.hid hh; have HLEN := Lib.hid hlen; have HNN := Lib.hid hN; have HC := Lib.hid hcell
    clear hh hok hx hlen hNe hcl hCn hmk hcell hN
    refine (callsIn_wide (n := 5)).1 ?_
    refine callsIn_of_wp_marks Try.func69 rfl trivial ?_ rfl
    simp only [Try.ntmps69, List.size_toArray, List.length_cons, List.length_nil, Nat.reduceAdd, Nat.reduceSub, Array.replicate_succ, Array.replicate_zero, List.push_toArray, List.append_toArray, List.nil_append, List.cons_append]
    gi_wp2_with fail
    refine ⟨trivial, ?_⟩
    refine namedIn ?_
    intro W hW
    obtain ⟨b0, b1, hbW, hsz⟩ := boxes2 hW
    clear hW
    refine (callsIn_wide.2 (HH.out W (HX.out.below hbW))).mono ?_
    rintro e w1 ⟨rfl, hb1⟩
    have hB1 := hbW.trans (hb1.mono (by omega))
    have c0 := b0.below hb1 (by omega)
    have c1 := b1.below hb1 (by omega)
    obtain ⟨r0, r1, r2, r3⟩ := c0.c4
    obtain ⟨s0, s1⟩ := c1.c1
    have hsz1 := hb1.size
    have hl0 : w.heap.size < w1.heap.size := by omega
    have hl1 : w.heap.size + 1 < w1.heap.size := by omega
    have hl2 : w.heap.size < w1.heap.size + 1 := by omega
    have hl3 : w.heap.size < w1.heap.size + 1 + 1 := by omega
    have hmk := HMK.out
    have HB1 := Lib.hid hB1; have HC0 := Lib.hid c0; have HC1 := Lib.hid c1
    clear hb1 hbW b0 b1 hB1 c0 c1
    gi_wp2_with (refine ⟨trivial, ?_⟩; gi_at_call 66; refine (rows_in Fence.wide _ trivial rfl _ _ _ _ _ _ _).mono ?_; rintro e w' ⟨rfl, rfl⟩)
    obtain ⟨G, hG⟩ : ∃ G, G = w1.heap.size := ⟨_, rfl⟩
    obtain ⟨V, hV⟩ : ∃ V, V = (((w1.alloc (.cells (madeCells #[.float .f64 0] N) 29)).alloc (.cells #[.slice (some ⟨w1.heap.size, 0, none⟩) q N] 22)).alloc (.cells #[.int .i64 0] 3)).alloc (.cells #[.int .i64 f.C, .slice (some ⟨b, off, none⟩) f.xs.length c, .int .i64 f.R, .int .i64 f.T] 24) := ⟨_, rfl⟩
    have a1 : Boxed V (G + 1) 22 (.slice (some ⟨G, 0, none⟩) q N) := by
      have := ((Boxed.new (w1.alloc (.cells (madeCells #[.float .f64 0] N) 29)) 22 (.slice (some ⟨w1.heap.size, 0, none⟩) q N)).alloc (.cells #[.int .i64 0] 3)).alloc (.cells #[.int .i64 f.C, .slice (some ⟨b, off, none⟩) f.xs.length c, .int .i64 f.R, .int .i64 f.T] 24)
      rw [World.size_alloc, ← hV, ← hG] at this; exact this
    have a2 : Boxed V (G + 1 + 1) 3 (.int .i64 0) := by
      have := (Boxed.new ((w1.alloc (.cells (madeCells #[.float .f64 0] N) 29)).alloc (.cells #[.slice (some ⟨w1.heap.size, 0, none⟩) q N] 22)) 3 (.int .i64 0)).alloc (.cells #[.int .i64 f.C, .slice (some ⟨b, off, none⟩) f.xs.length c, .int .i64 f.R, .int .i64 f.T] 24)
      rw [World.size_alloc, World.size_alloc, ← hV, ← hG] at this; exact this
    have a3 : Bk V (G + 1 + 1 + 1) 24 #[.int .i64 f.C, .slice (some ⟨b, off, none⟩) f.xs.length c, .int .i64 f.R, .int .i64 f.T] := by
      have := Bk.new (((w1.alloc (.cells (madeCells #[.float .f64 0] N) 29)).alloc (.cells #[.slice (some ⟨w1.heap.size, 0, none⟩) q N] 22)).alloc (.cells #[.int .i64 0] 3)) 24 #[.int .i64 f.C, .slice (some ⟨b, off, none⟩) f.xs.length c, .int .i64 f.R, .int .i64 f.T]
      rw [World.size_alloc, World.size_alloc, World.size_alloc, ← hV, ← hG] at this; exact this
    have a4 : Boxed V (w.heap.size + 1) 3 (.int .i64 (q : Int)) := by rw [hV]; exact (((HC1.out.alloc _).alloc _).alloc _).alloc _
    have a0 : V.ownsRow w.heap.size 29 1 (.slice (some ⟨G, 0, none⟩) q N) q (List.replicate q (.float .f64 0)) := by
      have := (((own_made w1 29 q N (by have := HNN.out; omega) (by have := HNN.out; omega) (base := w.heap.size) (by omega)).alloc (.cells #[.slice (some ⟨w1.heap.size, 0, none⟩) q N] 22)).alloc (.cells #[.int .i64 0] 3)).alloc (.cells #[.int .i64 f.C, .slice (some ⟨b, off, none⟩) f.xs.length c, .int .i64 f.R, .int .i64 f.T] 24)
      rw [← hV, ← hG] at this; exact this
    have hBV : Below w.heap.size w V := by rw [hV]; exact (((HB1.out.alloc (by omega) _).alloc (by simp; omega) _).alloc (by simp; omega) _).alloc (by simp; omega) _
    have hVs : G + 1 + 1 + 1 < V.heap.size := a3.lt
    have hGs : w.heap.size + 2 ≤ G := by omega
    rw [← hV, ← hG]
    clear hV hG r0 r1 r2 r3 s0 s1 hmk hl0 hl1 hl2 hl3 hsz1
    have HA0 := Lib.hid a0
    clear a0
    have hcx := HX.out.cap
    have hc63 := HX.out.room
    refine wpIn_rangeFunc_ownG rfl (by decide) (gf := 87) (lb := #[.pointer (some ⟨G + 1 + 1 + 1, 0, none⟩)]) rfl trivial (enters_of Try.func87 (by kernel_rfl) rfl)
      (rows_stops Fence.wide 4 trivial rfl (by decide) (G + 1 + 1 + 1) w.heap.size b off c N f.xs.length (by have := HNN.out; omega) HLEN.out.symm hcx hc63 V hVs (by rw [a3.c4.1]; congr 2; have := HNN.out; omega) a3.c4.2.1) belowK_t (belowK_b (by omega)) (Below.refl _ _) (fun _ => rfl)
      (fun pre W => ((∃ v, Boxed W (G + 1) 22 v ∧ W.ownsRow w.heap.size 29 1 v q (List.replicate q (.float .f64 0)) ∧ v = .slice (some ⟨G, 0, none⟩) q N) ∧ (Boxed W (G + 1 + 1) 3 (.int .i64 (pre.length : Int)) ∧ Boxed W (w.heap.size + 1) 3 (.int .i64 (q : Int)) ∧ pre.length ≤ q)) ∧ Below w.heap.size w W)
      (fun c' pre W => ((∃ v, Boxed W (G + 1) 22 v ∧ W.ownsRow w.heap.size 29 1 v (q + (N - lastx pre)) (List.replicate q (.float .f64 0) ++ rowV N f.xs (lastx pre)) ∧ True) ∧ (c' = .exit 0 ∧ pre.length = q + 1)) ∧ Below w.heap.size w W)
      (OwnFrom.and (OwnFrom.and ((holdsRow_own _ _ _ _ _ (fun _ => q) (fun _ => List.replicate q (.float .f64 0)) (fun _ v => v = .slice (some ⟨G, 0, none⟩) q N)).from _) (Own.from (fun s A B row hs hg hr => ⟨boxed_kept hs.1 hg hr, boxed_kept hs.2.1 hg hr, hs.2.2⟩) _)) (ownFrom_below (Nat.le_refl _) (by omega)))
      (fun c' => OwnFrom.and (OwnFrom.and ((holdsRow_own _ _ _ _ _ (fun pre => q + (N - lastx pre)) (fun pre => List.replicate q (.float .f64 0) ++ rowV N f.xs (lastx pre)) (fun _ _ => True)).from _) (Own.from (fun s A B row hs hg hr => hs) _)) (ownFrom_below (Nat.le_refl _) (by omega)))
      ⟨⟨⟨_, a1, HA0.out, rfl⟩, a2, a4, Nat.zero_le _⟩, hBV⟩
      (fun x => { tmps := #[.agg #[.int .i64 f.C, .slice (some ⟨b, off, none⟩) f.xs.length c, .int .i64 f.R, .int .i64 f.T], .int .i64 (q : Int), .pointer (some ⟨w.heap.size, 0, none⟩), .pointer (some ⟨w.heap.size + 1, 0, none⟩), .slice none 0 0, .pointer (some ⟨G + 1, 0, none⟩), .pointer (some ⟨G + 1 + 1, 0, none⟩), .slice (some ⟨b, off + st N x.1, none⟩) (N - x.1) (c - st N x.1), .agg #[.int .i64 f.C, .slice (some ⟨b, off, none⟩) f.xs.length c, .int .i64 f.R, .int .i64 f.T], .int .i64 (q : Int), .bool true, .bool false, .int .i64 (q : Int), .pointer (some ⟨w.heap.size, 0, none⟩), .int .i64 f.C, .int .i64 (f.C + 1), .slice (some ⟨G, 0, none⟩) q N, .agg #[.int .i64 f.C, .slice (some ⟨b, off, none⟩) f.xs.length c, .int .i64 f.R, .int .i64 f.T], .func (.func 87) #[] #[.pointer (some ⟨G + 1 + 1 + 1, 0, none⟩)], .slice (some ⟨b, off + st N x.1, none⟩) (N - x.1) (c - st N x.1), undef, undef, undef, undef, undef, undef, undef, undef, undef], defers := [] }) ?assign ?body ?done ?stop
    case assign =>
      intro l x W K hK
      gi_wp2
      exact hK
    case body =>
      rintro l pre ⟨k, hk⟩ W ⟨⟨⟨v, hbx, hrow, rfl⟩, hbn, hbi, hpl⟩, hB⟩ _
      have n0 := hbn.cell; have n1 := hbn.frozen; have i1 := hbi.cell; have l0 := hbx.cell; have l1 := hbx.frozen
      obtain ⟨m, hm⟩ : ∃ m, m = pre.length := ⟨_, rfl⟩
      rw [← hm] at hbn n0 hpl
      have HPL := Lib.hid hm
      by_cases hmq : m = q
      · have hmi : ((m : Int) == (q : Int)) = true := by rw [beq_iff_eq]; omega
        have HMQ := Lib.hid hmq
        have hrl := rowV_length hk HLEN.out
        have hcr : ∀ j u, (rowV N f.xs k)[j]? = some u → W.cell? ((⟨b, off + st N k, none⟩ : Addr).add j) = some u := fun j u hu => by
          obtain ⟨g1, g2, rfl⟩ := rowV_get hu
          have e2 : (⟨b, off + st N k, none⟩ : Addr).add j = ⟨b, off + (st N k + j), none⟩ := by
            unfold Addr.add; split
            · subst_vars; rw [Nat.add_zero]
            · rw [Nat.add_assoc]
          rw [e2]
          exact (hB.cell (p := ⟨b, off + (st N k + j), none⟩) hbb).trans (HC.out _ g1)
        have h1c : ∀ u ∈ rowV N f.xs k, u.oneCell' = true := fun u hu => by
          unfold rowV at hu; rw [List.mem_map] at hu; obtain ⟨y, _, rfl⟩ := hu; rfl
        have HCR := Lib.hid hcr; have H1C := Lib.hid h1c; have HRL := Lib.hid hrl
        have hN7 : N ≤ 7 := by have := HNN.out; omega
        have HK := Lib.hid hk
        obtain ⟨d, hd⟩ : ∃ d, d = N - k := ⟨_, rfl⟩
        have hd1 : 1 ≤ d := by omega
        have hd7 : d ≤ 7 := by omega
        have HD := Lib.hid hd
        dsimp only
        rw [← hd]
        rw [← hd] at hrl
        clear hcr h1c hrl hm hmq hd
        have hap := fun v' (w1 : World) ys m' (hown' : w1.ownsRow w.heap.size 29 1 v' m' ys) hgrow => appended0 hbx (by decide) hrow hB.size (by omega) hown' hgrow
        have HAP := Lib.hid hap
        clear hap
        gi_wp2_with (gi_at_builtin; refine wpListIn_append_own _ rfl _ _ 22 rfl w.heap.size 29 i0 (.float .f64 0) 1 8 Try.underlying22 hi hz0 hz1 hz2 rfl (by decide) _ q _ rfl hrow ⟨b, off + st N k, none⟩ d _ (rowV N f.xs k) rfl (by rw [HRL.out, ← HD.out, Nat.mul_one]) HCR.out H1C.out (by unfold maxLen; omega) (by omega) hB.size ?_; intro v' w2 hown' hgrow _; obtain ⟨d', hd'⟩ : ∃ d', q + d = d' + 1 := ⟨q + d - 1, by omega⟩; have hform := hown'; rw [hd'] at hform; obtain ⟨g', cap', rfl⟩ := ownsRow_succ hform; rw [← hd'] at *; clear hform hd'; obtain ⟨p1, p2, p3, p4, p5⟩ := HAP.out _ _ _ _ hown' hgrow; have y0 := p1.cell; have y1 := p1.frozen)
        refine ⟨p4.from _, ⟨⟨_, p2, ?_, trivial⟩, rfl, ?_⟩, hB.trans p5⟩
        · rw [lastx_snoc, ← HD.out]; exact p3
        · rw [List.length_append, ← HPL.out, HMQ.out]; rfl
      · have hmi : ((m : Int) == (q : Int)) = false := by rw [beq_eq_false_iff_ne]; omega
        have HMQ := Lib.hid hmq
        have hm9 : (m : Int) ≤ 100 := by omega
        clear hm hmq
        gi_wp2
        refine ⟨(KeepsOthers.setCell _ _ _).from _, ((Below.refl _ _).setCell (p := ⟨G + 1 + 1, 0, none⟩) (by show w.heap.size ≤ G + 1 + 1; omega) _), ⟨⟨_, hbx.kept (grownBy_setCell' _ _ _) (by simp), hrow.kept (grownBy_setCell' _ _ _) (.inr (by simp [Value.ownBlock]; omega)), rfl⟩, ?_, hbi.kept (grownBy_setCell' _ _ _) (by simp; omega), ?_⟩, hB.setCell (p := ⟨G + 1 + 1, 0, none⟩) (by show w.heap.size ≤ G + 1 + 1; omega) _⟩
        · have := hbn.set (.int .i64 ((m : Int) + 1))
          rw [List.length_append, ← HPL.out]; exact this
        · rw [List.length_append, ← HPL.out]; have := HMQ.out; show m + 1 ≤ q; omega
    case done =>
      rintro D ys W hD rfl ⟨⟨_, _, _, hlen⟩, hB⟩ hK
      rw [List.length_finRange] at hlen
      have := HNN.out
      omega
    case stop =>
      rintro D c' pre W hD ⟨k, hkN, hpre⟩ ⟨⟨⟨v, hbx, hrow, _⟩, rfl, hpl⟩, hB⟩ hK
      have hq : k = q + 1 := by
        rw [hpre, List.length_take, List.length_finRange] at hpl; omega
      subst hq
      have hqN : q < N := by omega
      rw [hpre, lastx_take hqN] at hrow
      have hln : List.replicate q (Value.float .f64 0) ++ rowV N f.xs q = (lineS f (q : Int)).map (Value.float .f64) := by
        unfold lineS
        rw [if_pos HHS.out, List.map_append, List.map_replicate, Int.toNat_natCast, show (f.C + 1).toNat = N from by have := HNN.out; omega]; rfl
      have hll := lineS_length HHS.out
      rw [show (f.C + 1).toNat = N from by have := HNN.out; omega] at hll
      rw [hln, show q + (N - q) = N from by omega, ← hll] at hrow
      have hlt : ∀ y ∈ lineS f (q : Int), y < 18446744073709551616 := fun y hy => by
        rw [← lineS_range HHS.out, List.mem_map] at hy
        obtain ⟨p, _, rfl⟩ := hy
        exact getS_lt HX.out.reads.1 _ _
      have HROW := Lib.hid hrow; have HLT := Lib.hid hlt
      have l0 := hbx.cell
      clear hrow hln hll hlt hpre hpl
      gi_wp2
      refine ⟨by simp, .inl ⟨_, _, rfl, run_takeDeferred hK, ?_⟩⟩
      have hown5 := ownsRow_putObj HROW.out (.deferred none) hK rfl
      refine ⟨v, ?_, ⟨_, rfl, made_of_own hown5 HLT.out⟩, hB.trans (belowK_b (w := w) (Nat.le_refl _) W D _ _ (by omega) hK rfl rfl)⟩
      simp [results, Try.f69, go_sem]

end Go.Proofs.Ytigacobphgeeaaa

/- A factor with a row set: tri.Set. -/
namespace Lev
open Go
theorem splice_set {cur : List Value} {xs l : List Nat} {N i : Nat} (hcur : cur.take xs.length = xs.map (Value.float .f64)) (hlen : xs.length = st N N) (hi : i < N) (hl : l.length = N) :
    ∀ p, p < xs.length → (splice cur (st N i) ((l.drop i).map (Value.float .f64)))[p]? = some (.float .f64 (setP N i l xs p)) := by
  intro p hp
  have h1 := st_end hi
  rw [st_succ] at h1
  have hcl : xs.length ≤ cur.length := by
    have := congrArg List.length hcur
    rw [List.length_take, List.length_map] at this; omega
  have hold : cur[p]? = some (.float .f64 (xs[p]?.getD 0)) := by
    have h2 := congrArg (·[p]?) hcur
    simp only [List.getElem?_map] at h2
    rw [List.getElem?_take_of_lt hp, List.getElem?_eq_getElem hp] at h2
    rw [h2, List.getElem?_eq_getElem hp]; rfl
  have hcs : ((l.drop i).map (Value.float .f64)).length = N - i := by rw [List.length_map, List.length_drop, hl]
  unfold splice setP
  rw [st_succ, hcs]
  by_cases hin : st N i ≤ p ∧ p < st N i + (N - i)
  · rw [if_pos hin, List.getElem?_append_right (by rw [List.length_take]; omega), List.length_take, Nat.min_eq_left (by omega), List.getElem?_append_left (by rw [hcs]; omega), List.getElem?_map, List.getElem?_drop, List.getElem?_eq_getElem (by omega)]
    rfl
  · rw [if_neg hin]
    by_cases hlt : p < st N i
    · rw [List.getElem?_append_left (by rw [List.length_take]; omega), List.getElem?_take_of_lt hlt, hold]
    · rw [List.getElem?_append_right (by rw [List.length_take]; omega), List.length_take, Nat.min_eq_left (by omega), List.getElem?_append_right (by rw [hcs]; omega), hcs, List.getElem?_drop]
      have e : st N i + (N - i) + (p - st N i - (N - i)) = p := by omega
      rw [e, hold]
end Lev
namespace Go.Proofs.Ytigacobphgeeaaa
open Go.RowKit Go.Shelf Lev

end Go.Proofs.Ytigacobphgeeaaa

/- The document's answer: a factor with a row set. -/
namespace Lev
/-- Entry p behind the setting of row i up to column j. -/
def setM (N i : Nat) (l xs : List Nat) (j p : Nat) : Nat := if st N i ≤ p ∧ p < st N i + (j - i) then l[i + (p - st N i)]?.getD 0 else xs[p]?.getD 0
theorem setM_start (N i : Nat) (l xs : List Nat) (p : Nat) : setM N i l xs i p = xs[p]?.getD 0 := by unfold setM; rw [if_neg (by omega)]
theorem setM_end (N i : Nat) (l xs : List Nat) (p : Nat) : setM N i l xs N p = setP N i l xs p := by unfold setM setP; rw [st_succ]
theorem setM_step (N i : Nat) (l xs : List Nat) (j p : Nat) (h : i ≤ j) : setM N i l xs (j + 1) p = if p = st N i + (j - i) then l[j]?.getD 0 else setM N i l xs j p := by
  unfold setM
  by_cases hp : p = st N i + (j - i)
  · rw [if_pos (by omega), if_pos hp]; congr 2; omega
  · rw [if_neg hp]
    by_cases h2 : st N i ≤ p ∧ p < st N i + (j - i)
    · rw [if_pos h2, if_pos (by omega)]
    · rw [if_neg h2, if_neg (by omega)]
end Lev
namespace Go.Proofs.Ytigacobphgeeaaa
open Go.RowKit Go.Shelf Lev

attribute [local go_sem] run_store_float

end Go.Proofs.Ytigacobphgeeaaa

/- More small words: what lay below is kept, step by step. -/
namespace Go.Proofs.Ytigacobphgeeaaa
open Go.RowKit Lev
theorem Below.allocs {a w : World} (h : Below a.heap.size a w) (o : Obj) : Below a.heap.size a (w.alloc o) := h.alloc h.size o
theorem Below.sets {a w : World} (h : Below a.heap.size a w) {p : Addr} (hp : a.heap.size ≤ p.block) (u : Value) : Below a.heap.size a (w.setCell p u) := h.setCell hp u
theorem Below.drews {a w : World} (h : Below a.heap.size a w) : Below a.heap.size a w.drew := h.drew
theorem Below.drewNs {a w : World} (h : Below a.heap.size a w) (n : Nat) : Below a.heap.size a (w.drewN n) := h.drewN n
theorem Keep.drew {w W : World} {L M} (h : Keep w W L M) : Keep w W.drew L M := h.call ⟨rfl, rfl, rfl, Nat.le_refl _, fun _ _ => rfl⟩
theorem Bk.all4 {w : World} {g : Nat} {t : TypeId} {v0 v1 v2 v3 : Value} (h : Bk w g t #[v0, v1, v2, v3]) : (w.cell? ⟨g, 0, none⟩ = some v0 ∧ w.cell? ⟨g, 1, none⟩ = some v1 ∧ w.cell? ⟨g, 2, none⟩ = some v2 ∧ w.cell? ⟨g, 3, none⟩ = some v3) ∧
    w.frozen? ⟨g, 0, none⟩ = false ∧ w.frozen? ⟨g, 1, none⟩ = false ∧ w.frozen? ⟨g, 2, none⟩ = false ∧ w.frozen? ⟨g, 3, none⟩ = false := ⟨h.c4, h.f4⟩
end Go.Proofs.Ytigacobphgeeaaa
