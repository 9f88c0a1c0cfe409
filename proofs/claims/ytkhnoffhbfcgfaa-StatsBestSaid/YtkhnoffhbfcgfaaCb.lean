/- The iterator over a factor's rows. -/
import Derived.Test.YtkhnoffhbfcgfaaCa
import Derived.RangeFuncBox
import Derived.RangeFuncLeaves
import Derived.OwnWalkIn
import Derived.TacticsInMore
import Derived.LoopNIn
import Derived.LoopIn
namespace Go.Proofs.Ytkhnoffhbfcgfaa
open Go.RowKit Lev

attribute [local go_sem] Oper.semAt_some

set_option maxHeartbeats 400000 in
theorem rows_in (F : Fence) (n : Nat) (hF : F.fn 56) (hro : F.round = none) (C : Int) (A : Option Addr) (l c : Nat) (R T : Int) (w : World) :
    CallsIn F n Try.prog 56 #[facV C A l c R T] w fun e w' => e = .returned (.func (.func 73) #[] #[.pointer (some ⟨w.heap.size, 0, none⟩)]) ∧
      w' = w.alloc (.cells #[.int .i64 C, .slice A l c, .int .i64 R, .int .i64 T] 24) := by
  unfold facV
  refine callsIn_of_wp Try.func56 rfl hF ?_ hro
  simp only [Try.ntmps56, List.size_toArray, List.length_cons, List.length_nil, Nat.reduceAdd, Nat.reduceSub, Array.replicate_succ, Array.replicate_zero, List.push_toArray, List.append_toArray, List.nil_append, List.cons_append]
  gi_wp2
  go_ret
  exact ⟨rfl, rfl⟩

theorem take_fin {N k : Nat} (h : k < N) : (List.finRange N).take (k + 1) = (List.finRange N).take k ++ [⟨k, h⟩] := by
  rw [List.take_succ_eq_append_getElem (by rw [List.length_finRange]; exact h)]
  simp

set_option maxRecDepth 100000 in
set_option maxHeartbeats 2000000 in
theorem rows1_in (F : Fence) (n : Nat) (hF : F.fn 73) (hro : F.round = none) (hn : 1 ≤ n) (l Bf n₀ b off c N : Nat) (hN : N ≤ 7) (len : Nat) (hlen : st N N = len) (hcap : len ≤ c) (hc63 : c ≤ 9223372036854775807)
    (J Jx : List (Fin N) → World → Prop)
    (hY : ∀ (pre : List (Fin N)) (x : Fin N) W, J pre W → pre.length < N → YieldAt F (n - 1) Try.prog l #[.slice (some ⟨b, off + st N x.1, none⟩) (N - x.1) (c - st N x.1)] W fun e W' =>
      (e = .returned (.bool true) ∧ J (pre ++ [x]) W' ∧ Below n₀ W W') ∨ (e = .returned (.bool false) ∧ Jx (pre ++ [x]) W'))
    (W : World) (hB0 : W.cell? ⟨Bf, 0, none⟩ = some (.int .i64 ((N : Int) - 1))) (hB1 : W.cell? ⟨Bf, 1, none⟩ = some (.slice (some ⟨b, off, none⟩) len c)) (h0 : J [] W) :
    CallsIn F n Try.prog 73 #[.func (.yield l) #[] #[], .pointer (some ⟨Bf, 0, none⟩)] W fun e W' => (∃ v, e = .returned v) ∧
      ((∃ ys, ys = List.finRange N ∧ J ys W') ∨ (∃ pre, (∃ k, k ≤ N ∧ pre = (List.finRange N).take k) ∧ Jx pre W')) := by
  refine callsIn_of_wp Try.func73 rfl hF ?_ hro
  simp only [Try.ntmps73, List.size_toArray, List.length_cons, List.length_nil, Nat.reduceAdd, Nat.reduceSub, Array.replicate_succ, Array.replicate_zero, List.push_toArray, List.append_toArray, List.nil_append, List.cons_append]
  gi_wp2
  gi_loopw [3, 4] (fun r i wr => ∃ (k m L K : Nat) (A' : Option Addr), m + k = N ∧ L + st N k = len ∧ K + st N k = c ∧ i = .int .i64 (m : Int) ∧ r = .slice A' L K ∧ (k < N → A' = some ⟨b, off + st N k, none⟩) ∧ J ((List.finRange N).take k) wr ∧ Below n₀ W wr)
    (fun _ i _ => (intOf i).toNat)
  case atStart => exact ⟨0, N, len, c, some ⟨b, off, none⟩, rfl, rfl, rfl, rfl, rfl, fun _ => rfl, h0, Below.refl _ _⟩
  case round =>
    obtain ⟨k, m, L, K, A', hm, hL, hK, rfl, rfl, hA, hJs, hnx⟩ := hrel
    by_cases hlt : k < N
    · have hs := st_succ N k
      have hle := st_le (N := N) (k := k + 1) (m := N) (by omega)
      have hA' := hA hlt
      subst hA'
      have hmL : (m : Int) ≤ (L : Int) := by omega
      have hLK : (L : Int) ≤ (K : Int) := by omega
      have hK63 : (K : Int) ≤ 9223372036854775807 := by omega
      have hm0 : (0 : Int) < (m : Int) := by omega
      have hm7 : (m : Int) ≤ 7 := by omega
      obtain ⟨fn, tmps, assign, body, hy, hR⟩ := hY _ ⟨k, hlt⟩ wr hJs (by rw [List.length_take, List.length_finRange]; omega)
      dsimp only at hy
      rw [show N - k = m from by omega, show c - st N k = K from by omega] at hy
      have HM := Lib.hid hm; have HL := Lib.hid hL; have HK := Lib.hid hK
      have HS := Lib.hid hs; have HLE := Lib.hid hle; have HA := Lib.hid hlen; have HC := Lib.hid hcap
      have HC63 := Lib.hid hc63
      clear hm hL hK hs hle hlen hcap hc63 hA hY
      have hKm : K = m ∨ ¬ K = m := Classical.em _
      gi_wp2
      refine hR.mono ?_
      rintro e W3 (⟨rfl, hJ3, hk3⟩ | ⟨rfl, hJx3⟩)
      · gi_wp2
        go_roundw
        case rel =>
          have := HM.out; have := HL.out; have := HK.out; have := HS.out; have := HLE.out; have := HA.out; have := HC.out
          refine ⟨k + 1, m - 1, L - m, K - m, _, by omega, by omega, by omega, by go_num, rfl, fun h => ?_, by rw [take_fin hlt]; exact hJ3, hnx.trans hk3⟩
          have hKm : ¬ K = m := by
            have h3 := st_succ N (k + 1)
            have h4 := st_le (N := N) (k := k + 1 + 1) (m := N) (by omega)
            omega
          rw [if_neg hKm]
          have he : off + st N k + m = off + st N (k + 1) := by omega
          rw [he]
        case measure => have := HM.out; simp [intOf]; omega
      · gi_wp2
        refine bodyPost_ret (results_none rfl _ _ _) rfl ?_
        exact ⟨⟨_, rfl⟩, .inr ⟨_, ⟨k + 1, by omega, (take_fin hlt).symm⟩, hJx3⟩⟩
    · obtain rfl : m = 0 := by omega
      obtain rfl : k = N := by omega
      gi_wp2
      go_end0
      refine ⟨⟨_, rfl⟩, .inl ⟨_, ?_, hJs⟩⟩
      rw [List.take_of_length_le (by rw [List.length_finRange]; omega)]

theorem rows_stops (F : Fence) (n : Nat) (hF : F.fn 73) (hro : F.round = none) (hn : 1 ≤ n) (Bf n₀ b off c N len : Nat) (hN : N ≤ 7) (hlen : st N N = len) (hcap : len ≤ c) (hc63 : c ≤ 9223372036854775807)
    (w : World) (hBf : Bf < w.heap.size) (hB0 : w.cell? ⟨Bf, 0, none⟩ = some (.int .i64 ((N : Int) - 1))) (hB1 : w.cell? ⟨Bf, 1, none⟩ = some (.slice (some ⟨b, off, none⟩) len c)) :
    SeqStopsK F n Try.prog 73 #[.pointer (some ⟨Bf, 0, none⟩)] (fun x : Fin N => #[Value.slice (some ⟨b, off + st N x.1, none⟩) (N - x.1) (c - st N x.1)]) (Below n₀) (fun ys => ys = List.finRange N) (fun pre => ∃ k, k ≤ N ∧ pre = (List.finRange N).take k) N w := fun l J Jx W hW _ _ hY h0 => by
  have c0 := (hW.cell (p := ⟨Bf, 0, none⟩) hBf).trans hB0
  have c1 := (hW.cell (p := ⟨Bf, 1, none⟩) hBf).trans hB1
  exact rows1_in F n hF hro hn l Bf n₀ b off c N hN len hlen hcap hc63 J Jx hY W c0 c1 h0

end Go.Proofs.Ytkhnoffhbfcgfaa
