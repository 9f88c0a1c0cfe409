/- Plain texts, laid as one. -/
import Derived.Test.YtdpmpfbbfknlmaaE9
import Derived.Test.YtdpmpfbbfknlmaaN9
import Derived.Test.YtdpmpfbbfknlmaaZ9
import Derived.Test.YtdpmpfbbfknlmaaW9
/- Plain: sums of products against the roots of the sums of the squares. -/
namespace Lev
open Ieee
theorem sq_nonneg9 (x : Rat) : 0 ≤ x * x := by
  rcases Rat.le_total (a := 0) (b := x) with h | h
  · exact Rat.mul_nonneg h h
  · have := Rat.mul_nonneg (show 0 ≤ -x by grind) (show 0 ≤ -x by grind)
    grind
theorem sumR_mono {t s : Nat → Rat} : ∀ k : Nat, (∀ i, i < k → t i ≤ s i) → sumR t k ≤ sumR s k
  | 0, _ => Rat.le_refl
  | k + 1, h => by
    have h1 := sumR_mono k (fun i hi => h i (by omega))
    have h2 := h k (by omega)
    show sumR t k + t k ≤ sumR s k + s k
    grind
theorem sumR_lin {x y : Nat → Rat} (a b : Rat) : ∀ k : Nat, sumR (fun i => a * x i + b * y i) k = a * sumR x k + b * sumR y k
  | 0 => by show (0 : Rat) = a * 0 + b * 0; grind
  | k + 1 => by
    show sumR _ k + (a * x k + b * y k) = a * (sumR x k + x k) + b * (sumR y k + y k)
    rw [sumR_lin a b k]; grind
theorem sumR_one {x : Nat → Rat} : ∀ k : Nat, (∀ i, i < k → 0 ≤ x i) → ∀ i, i < k → x i ≤ sumR x k
  | 0, _, i, hi => absurd hi (Nat.not_lt_zero _)
  | k + 1, h, i, hi => by
    show x i ≤ sumR x k + x k
    have h0 := sumR_nonneg (t := x) k (fun i hi => h i (by omega))
    by_cases e : i = k
    · subst e; grind
    · have h1 := sumR_one k (fun i hi => h i (by omega)) i (by omega)
      have h2 := h k (by omega)
      grind
theorem two_sq (a b U V : Rat) : 2 * (U * V) * (a * b) ≤ V * V * (a * a) + U * U * (b * b) := by
  have := sq_nonneg9 (V * a - U * b)
  grind
theorem le_of_sq {a U : Rat} (hU : 0 ≤ U) (h : a * a ≤ U * U) : a ≤ U := by
  rcases Rat.le_total (a := a) (b := U) with h1 | h1
  · exact h1
  · by_cases e : a = U
    · rw [e]; exact Rat.le_refl
    · have h2 : U < a := by grind
      have h3 : U * U ≤ U * a := Rat.mul_le_mul_of_nonneg_left h1 hU
      have h4 : U * a < a * a := Rat.mul_lt_mul_of_pos_right h2 (by grind)
      grind
theorem ab_sq2 (x : Rat) : ab x * ab x = x * x := by unfold ab; split <;> grind
theorem entry_le {x : Nat → Rat} {U : Rat} (hU : 0 ≤ U) {k : Nat} (h : sumR (fun i => x i * x i) k ≤ U * U) {i : Nat} (hi : i < k) : ab (x i) ≤ U := by
  refine le_of_sq hU ?_
  rw [ab_sq2]
  have := sumR_one (x := fun i => x i * x i) k (fun i _ => sq_nonneg9 _) i hi
  exact Rat.le_trans this h
theorem cauchy {x y : Nat → Rat} {U V : Rat} (hU : 0 ≤ U) (hV : 0 ≤ V) (k : Nat) (h1 : sumR (fun i => x i * x i) k ≤ U * U) (h2 : sumR (fun i => y i * y i) k ≤ V * V) :
    sumR (fun i => ab (x i) * ab (y i)) k ≤ U * V := by
  have hUV := Rat.mul_nonneg hU hV
  by_cases e : U * V = 0
  · have hz : ∀ i, i < k → ab (x i) * ab (y i) ≤ 0 := fun i hi => by
      have a1 := entry_le hU h1 hi
      have a2 := entry_le hV h2 hi
      have b1 := ab_nonneg (x i)
      have b2 := ab_nonneg (y i)
      have c1 := Rat.mul_le_mul_of_nonneg_right a1 b2
      have c2 := Rat.mul_le_mul_of_nonneg_left a2 hU
      grind
    have h3 := sumR_mono (s := fun _ => 0) k hz
    have h4 : ∀ k : Nat, sumR (fun _ => (0 : Rat)) k = 0 := fun k => by
      induction k with
      | zero => rfl
      | succ k ih => show sumR (fun _ => (0 : Rat)) k + 0 = 0; rw [ih]; grind
    rw [h4] at h3
    grind
  · have hp : 0 < U * V := by grind
    have h3 := sumR_mono (t := fun i => 2 * (U * V) * (ab (x i) * ab (y i)) + 0 * 0) (s := fun i => V * V * (x i * x i) + U * U * (y i * y i)) k (fun i _ => by
      have := two_sq (ab (x i)) (ab (y i)) U V
      rw [ab_sq2, ab_sq2] at this
      grind)
    rw [sumR_lin (x := fun i => ab (x i) * ab (y i)) (y := fun _ => 0), sumR_lin (x := fun i => x i * x i) (y := fun i => y i * y i)] at h3
    have h5 := Rat.mul_le_mul_of_nonneg_left h1 (sq_nonneg9 V)
    have h6 := Rat.mul_le_mul_of_nonneg_left h2 (sq_nonneg9 U)
    refine Rat.not_lt.1 (fun hc => ?_)
    have h7 := Rat.mul_lt_mul_of_pos_left hc hp
    grind
end Lev

/- Plain: a faded factor's products are near. -/
namespace Lev
open Ieee
theorem prod_diff (fa fb A B : Rat) : ab (fa * fb - A * B) ≤ ab A * ab (fb - B) + ab B * ab (fa - A) + ab (fa - A) * ab (fb - B) := by
  have e : fa * fb - A * B = A * (fb - B) + (B * (fa - A) + (fa - A) * (fb - B)) := by grind
  have h1 := ab_add (A * (fb - B)) (B * (fa - A) + (fa - A) * (fb - B))
  have h2 := ab_add (B * (fa - A)) ((fa - A) * (fb - B))
  rw [e]
  rw [ab_mul A] at h1
  rw [ab_mul B, ab_mul (fa - A)] at h2
  grind
theorem prod_le {a b c d : Rat} (ha : 0 ≤ a) (hd : 0 ≤ d) (h1 : a ≤ c) (h2 : b ≤ d) : a * b ≤ c * d := by
  have h3 := Rat.mul_le_mul_of_nonneg_left h2 ha
  have h4 := Rat.mul_le_mul_of_nonneg_right h1 hd
  grind
theorem term_bd {fa fb A B u h U V : Rat} (hu : 0 ≤ u) (hh : 0 ≤ h) (hA : ab A ≤ U) (hB : ab B ≤ V) (ea : ab (fa - A) ≤ u * ab A + h) (eb : ab (fb - B) ≤ u * ab B + h) :
    ab (fa * fb - A * B) ≤ (2 * u + u * u) * (ab A * ab B) + (h * (1 + u) * (U + V) + h * h) := by
  have h1 := prod_diff fa fb A B
  have a0 := ab_nonneg A
  have b0 := ab_nonneg B
  have c0 := ab_nonneg (fa - A)
  have d0 := ab_nonneg (fb - B)
  have x1 := Rat.mul_le_mul_of_nonneg_left eb a0
  have x2 := Rat.mul_le_mul_of_nonneg_left ea b0
  have x3 := prod_le c0 (show 0 ≤ u * ab B + h by grind) ea eb
  have hc : 0 ≤ h * (1 + u) := Rat.mul_nonneg hh (by grind)
  have x4 := Rat.mul_le_mul_of_nonneg_left (show ab A + ab B ≤ U + V by grind) hc
  grind
theorem sumR_sub (x y : Nat → Rat) : ∀ k : Nat, sumR x k - sumR y k = sumR (fun i => x i - y i) k
  | 0 => by show (0 : Rat) - 0 = 0; grind
  | k + 1 => by
    show sumR x k + x k - (sumR y k + y k) = sumR _ k + (x k - y k)
    rw [← sumR_sub x y k]; grind
theorem sumR_const (c : Rat) : ∀ k : Nat, sumR (fun _ => c) k = (k : Rat) * c
  | 0 => by show (0 : Rat) = ((0 : Nat) : Rat) * c; rw [show ((0 : Nat) : Rat) = 0 from rfl]; grind
  | k + 1 => by
    show sumR (fun _ => c) k + c = ((k + 1 : Nat) : Rat) * c
    rw [sumR_const c k, Rat.natCast_add, show ((1 : Nat) : Rat) = 1 from rfl]; grind
/-- A sum of products of rounded numbers. -/
theorem sum_prod_bd {fa fb A B : Nat → Rat} {u h U V : Rat} (hu : 0 ≤ u) (hh : 0 ≤ h) (hU : 0 ≤ U) (hV : 0 ≤ V) (k : Nat) (h1 : sumR (fun i => A i * A i) k ≤ U * U) (h2 : sumR (fun i => B i * B i) k ≤ V * V)
    (ea : ∀ i, i < k → ab (fa i - A i) ≤ u * ab (A i) + h) (eb : ∀ i, i < k → ab (fb i - B i) ≤ u * ab (B i) + h) :
    ab (sumR (fun i => fa i * fb i) k - sumR (fun i => A i * B i) k) ≤ (2 * u + u * u) * (U * V) + (k : Rat) * (h * (1 + u) * (U + V) + h * h) := by
  rw [sumR_sub]
  have x1 := ab_sumR (fun i => fa i * fb i - A i * B i) k
  have x2 := sumR_mono (t := fun i => ab (fa i * fb i - A i * B i)) (s := fun i => (2 * u + u * u) * (ab (A i) * ab (B i)) + 1 * (h * (1 + u) * (U + V) + h * h)) k (fun i hi => by
    have := term_bd hu hh (entry_le hU h1 hi) (entry_le hV h2 hi) (ea i hi) (eb i hi)
    grind)
  rw [sumR_lin (x := fun i => ab (A i) * ab (B i)) (y := fun _ => h * (1 + u) * (U + V) + h * h), sumR_const] at x2
  have x3 := cauchy hU hV k h1 h2
  have hc : 0 ≤ 2 * u + u * u := by have := Rat.mul_nonneg hu hu; grind
  have x4 := Rat.mul_le_mul_of_nonneg_left x3 hc
  grind
end Lev

/- Plain: the bound of layer 9 holds for a faded factor's products. -/
namespace Lev
open Ieee
theorem bd_fin {D P S M c1 k h q u : Rat} (hd : D ≤ c1 * P + k * (h * (1 + u) * S + h * h)) (x1 : c1 * P ≤ P * 64 * u) (x2 : k * (h * (1 + u)) * S ≤ S * q) (x3 : k * (h * h) ≤ M) : D ≤ P * 64 * u + S * q + M := by grind
theorem bd_h {k h q : Rat} (hh : 0 ≤ h) (hk : k ≤ 7) (hq : q = 32768 * h) : k * (h * (1 + uu)) ≤ q := by
  have h1 := Rat.mul_le_mul_of_nonneg_right (show k * (1 + uu) ≤ 32768 by unfold uu; grind) hh
  grind
theorem bd_hh {k s M : Rat} (hs : 0 ≤ s) (hk : k ≤ 7) (hM : M = 1024 * s) : k * s ≤ M := by
  have h1 := Rat.mul_le_mul_of_nonneg_right (show k ≤ 1024 by grind) hs
  grind
theorem near_bound {fa fb A B : Nat → Rat} {U V : Rat} (hU : 0 ≤ U) (hV : 0 ≤ V) {k : Nat} (hk : k ≤ 7) (h1 : sumR (fun i => A i * A i) k ≤ U * U) (h2 : sumR (fun i => B i * B i) k ≤ V * V)
    (ea : ∀ i, i < k → ab (fa i - A i) ≤ uu * ab (A i) + pw (-1075)) (eb : ∀ i, i < k → ab (fb i - B i) ≤ uu * ab (B i) + pw (-1075)) :
    ab (sumR (fun i => fa i * fb i) k - sumR (fun i => A i * B i) k) ≤ U * V * 64 * pw (-53) + (U + V) * pw (-1060) + pw (-2140) := by
  have hk7 : (k : Rat) ≤ 7 := by have := cast_le.2 hk; exact this
  have hd := sum_prod_bd (u := uu) (h := pw (-1075)) (by unfold uu; decide +kernel) (Rat.le_of_lt (pw_pos _)) hU hV k h1 h2 ea eb
  rw [uu_eq]
  have hS : 0 ≤ U + V := by grind
  have hP := Rat.mul_nonneg hU hV
  have e1 : pw (-1060) = 32768 * pw (-1075) := by rw [show (32768 : Rat) = pw 15 from by decide +kernel, ← pw_add]; rfl
  have e2 : pw (-2140) = 1024 * (pw (-1075) * pw (-1075)) := by rw [show (1024 : Rat) = pw 10 from by decide +kernel, ← pw_add, ← pw_add]; rfl
  have hh := Rat.le_of_lt (pw_pos (-1075))
  have hhh := Rat.mul_nonneg hh hh
  have x2 := Rat.mul_le_mul_of_nonneg_right (bd_h hh hk7 e1) hS
  have x3 := bd_hh hhh hk7 e2
  have x1 := Rat.mul_le_mul_of_nonneg_right (show 2 * uu + uu * uu ≤ 64 * uu by unfold uu; decide +kernel) hP
  exact bd_fin hd (by rw [show U * V * 64 * uu = 64 * uu * (U * V) from by grind]; exact x1) (by rw [Rat.mul_comm (U + V)]; exact x2) x3
end Lev

/- Plain: how many bits a number has. -/
namespace Lev
/-- The number of bits. -/
def blen (n : Nat) : Nat := if n = 0 then 0 else n.log2 + 1
theorem blen_zero : blen 0 = 0 := rfl
/-- Halving from the last digit on ends at the number of bits. -/
theorem blen_of {n k : Nat} (h : n ≠ 0) (h1 : n / 2 ^ k = 0) (h2 : k ≠ 0 → n / 2 ^ (k - 1) ≠ 0) : k = blen n := by
  unfold blen
  rw [if_neg h]
  have hp := Nat.two_pow_pos k
  have h3 : n < 2 ^ k := by
    rcases Nat.lt_or_ge n (2 ^ k) with h4 | h4
    · exact h4
    · have := (Nat.div_pos h4 hp); omega
  have hk : k ≠ 0 := fun e => by subst e; simp at h3; exact h h3
  have h4 := h2 hk
  have h5 : 2 ^ (k - 1) ≤ n := by
    rcases Nat.lt_or_ge n (2 ^ (k - 1)) with h6 | h6
    · exact absurd (Nat.div_eq_of_lt h6) h4
    · exact h6
  have h7 := (Nat.log2_lt h).2 h3
  have h8 := (Nat.le_log2 h).2 h5
  omega
theorem blen_lt (n : Nat) : n < 2 ^ blen n := by
  unfold blen
  split
  · next h => subst h; decide
  · next h => exact (Nat.log2_lt h).1 (Nat.lt_succ_self _)
theorem blen_ge {n : Nat} (h : n ≠ 0) : 2 ^ (blen n - 1) ≤ n := by
  unfold blen
  rw [if_neg h]
  exact (Nat.le_log2 h).1 (Nat.le_refl _)
theorem last_digit {n : Nat} (h : n ≠ 0) : (nd n)[(nd n).length - 1]?.getD 0 = n / 2 ^ (32 * ((nd n).length - 1)) := by
  have h1 := vN_drop (nd n) ((nd n).length - 1) (dg_nd n)
  have hl := nd_len_pos h
  rw [vN_nd, pow32] at h1
  rw [← h1, vN_head, List.drop_eq_nil_of_le (by omega)]
  show _ = _ + 4294967296 * 0
  omega
end Lev

/- Contract of the document's Len of layer 2. -/
set_option linter.unusedVariables false
namespace Go.Proofs.Ytdpmpfbbfknlmaa
open Go.RowKit Go.Shelf Lev

set_option maxRecDepth 100000 in
set_option maxHeartbeats 1000000 in
theorem len02_any (ds : List Nat) (A : Option Addr) (c : Nat) (w : World) (h : NatA w A ds c) :
    Calls Try.prog 63 #[.slice A ds.length c] w fun e w' => e = .returned (.int .i64 (blen (vN ds) : Nat)) ∧ Below w.heap.size w w' := by
  have HT := Lib.hid (trim_any ds A c w h)
  generalize vN ds = N at *
  clear h
  go_enter Try.func63, Try.ntmps63
  go_wp2_with fail
  refine HT.out.mono ?_
  rintro e w1 ⟨⟨v, rfl, B, c2, rfl, hB⟩, hb⟩
  have HB := Lib.hid hb
  by_cases h0 : N = 0
  · subst h0
    rw [nd_zero]
    clear hB hb
    go_wp2
    go_ret
    exact ⟨rfl, HB.out⟩
  · have hl := nd_len_pos h0
    have hla := last_digit h0
    have hln := nd_last h0
    have hln2 := hB.len
    have hNlt := nd_lt N
    rw [pow32] at hNlt
    obtain ⟨b1, o1, rfl, hb1l, hc1⟩ := hB.cells hl
    have hcell := hc1 ((nd N).length - 1) (by omega)
    rw [hla] at hcell hln
    generalize hL : (nd N).length = L at *
    obtain ⟨M, hM⟩ : ∃ M, L = M + 1 := ⟨L - 1, by omega⟩
    have hM1 : L - 1 = M := by omega
    rw [hM1] at hcell hln hla
    have t0 : ((L : Int) == 0) = false := by rw [beq_eq_false_iff_ne]; omega
    have t1 : (L : Int) - 1 = (M : Int) := by omega
    have t2 : (M : Int) < (L : Int) := by omega
    rw [hM] at hNlt
    obtain ⟨T, hT⟩ : ∃ T, T = N / 2 ^ (32 * M) := ⟨_, rfl⟩
    rw [← hT] at hcell hln
    have HTT := Lib.hid hT
    have HLN := Lib.hid hln
    have HNL := Lib.hid hNlt
    have HNZ := Lib.hid h0
    clear hc1 hB hb hla hln hL hl hNlt hT
    have hM9 : M ≤ 100000 := by omega
    clear hM hM1 hln2 h0
    go_wp2_with fail
    go_loopw [4, 5] (fun kv tv wr => ∃ k : Nat, kv = .int .i64 (k : Int) ∧ tv = .int .u32 ((N / 2 ^ k : Nat) : Int) ∧ (32 * M ≤ k ∧ k ≤ 32 * M + 32) ∧ (k ≠ 0 → k = 32 * M ∨ N / 2 ^ (k - 1) ≠ 0) ∧ wr = w1) (fun _ tv _ => (intOf tv).toNat)
    case atStart => exact ⟨32 * M, by go_num, by rw [HTT.out], ⟨Nat.le_refl _, by omega⟩, fun _ => .inl rfl, rfl⟩
    case round =>
      obtain ⟨k, rfl, rfl, ⟨hk0, hk⟩, hk2, rfl⟩ := hrel
      have hdd : N / 2 ^ k / 2 = N / 2 ^ (k + 1) := by rw [Nat.div_div_eq_div_mul, Nat.pow_succ]
      have hk32 : N / 2 ^ k ≠ 0 → k < 32 * M + 32 := fun h => by
        refine Nat.lt_of_not_le (fun hc => h (Nat.div_eq_of_lt (Nat.lt_of_lt_of_le HNL.out (Nat.pow_le_pow_right (by decide) (by omega)))))
      have h32 : N / 2 ^ k < 4294967296 := by
        rw [Nat.div_lt_iff_lt_mul (Nat.two_pow_pos _)]
        refine Nat.lt_of_lt_of_le HNL.out ?_
        rw [show (4294967296 : Nat) = 2 ^ 32 from by decide, ← Nat.pow_add]
        exact Nat.pow_le_pow_right (by decide) (by omega)
      have HDD := Lib.hid hdd
      by_cases hlt : (0 : Int) < ((N / 2 ^ k : Nat) : Int)
      · have hz : N / 2 ^ k ≠ 0 := by omega
        have hk3 := hk32 hz
        have HZ := Lib.hid hz
        have HK := Lib.hid (show 32 * M ≤ k + 1 ∧ k + 1 ≤ 32 * M + 32 from ⟨by omega, by omega⟩)
        have hk9 : k ≤ 9000000 := by omega
        have t9 : decide ((0 : Int) < ((N / 2 ^ k : Nat) : Int)) = true := decide_eq_true hlt
        clear hdd hk32 hk2 hz hk0 hk hk3 hlt hM9 t0 t1 t2 hcell
        generalize hT : N / 2 ^ k = t at *
        have HT2 := Lib.hid hT
        clear hT
        obtain ⟨z, hz⟩ : ∃ z : Int, z = (t : Int) := ⟨_, rfl⟩
        rw [← hz]
        have hz1 : 0 < z := by have := of_decide_eq_true t9; omega
        have hz2 : z < 4294967296 := by omega
        have HZI := Lib.hid hz
        clear h32 t9 hz
        go_wp2
        go_roundw
        case rel => exact ⟨k + 1, by go_num, by rw [← HDD.out, HZI.out]; congr 1, HK.out, fun _ => .inr (by rw [Nat.add_sub_cancel, HT2.out]; exact HZ.out), trivial⟩
        case measure => simp [intOf]; omega
      · have hz : N / 2 ^ k = 0 := by generalize N / 2 ^ k = t at *; omega
        have HBL := Lib.hid (blen_of HNZ.out hz (fun hk0 => by
          rcases hk2 hk0 with e | e
          · subst e; rw [← HTT.out] at hz; exact absurd hz HLN.out
          · exact e))
        clear hk32 hdd hk2 h32
        go_wp2
        go_ret
        exact ⟨by rw [← HBL.out]; rfl, HB.out⟩
end Go.Proofs.Ytdpmpfbbfknlmaa

/- Contract of the document's Root of layer 2. -/
set_option linter.unusedVariables false
namespace Lev
theorem root_top (n : Nat) : n < (0 + 2 ^ (blen n / 2 + 1)) * (0 + 2 ^ (blen n / 2 + 1)) := by
  rw [Nat.zero_add, ← Nat.pow_add]
  refine Nat.lt_of_lt_of_le (blen_lt n) (Nat.pow_le_pow_right (by decide) (by omega))
theorem root_up {n r M : Nat} (h : n < (r + 2 ^ (M + 1)) * (r + 2 ^ (M + 1))) : n < (r + 2 ^ M + 2 ^ M) * (r + 2 ^ M + 2 ^ M) := by
  rw [show r + 2 ^ M + 2 ^ M = r + 2 ^ (M + 1) from by rw [Nat.pow_succ]; omega]; exact h
theorem root_sq {r n : Nat} (h : r * r ≤ n) : r ≤ n := by
  rcases Nat.eq_zero_or_pos r with h0 | h0
  · omega
  · exact Nat.le_trans (Nat.le_mul_of_pos_left r h0) h
theorem cmpN_le9 {a b : Nat} (h : a ≤ b) : decide (cmpN a b ≤ 0) = true := by
  rw [decide_eq_true_iff]; unfold cmpN; split
  · decide
  · split <;> omega
theorem cmpN_gt9 {a b : Nat} (h : b < a) : decide (cmpN a b ≤ 0) = false := by rw [cmpN_gt h]; decide
theorem nd_short {m k : Nat} (h : m < 2 ^ (32 * k)) : (nd m).length ≤ k := by
  rw [← pow32] at h
  rcases Nat.lt_or_ge k (nd m).length with h1 | h1
  · exfalso
    have hm : m ≠ 0 := fun e => by subst e; rw [nd_zero] at h1; exact absurd h1 (Nat.not_lt_zero _)
    have h2 := nd_ge hm
    have h3 := Nat.pow_le_pow_right (n := 4294967296) (by decide) (show k ≤ (nd m).length - 1 by omega)
    omega
  · exact h1
/-- The numbers met are short. -/
theorem root_short {n r M E : Nat} (hE : E ≤ 32000) (hb : blen n ≤ E) (hr : r * r ≤ n) (hM : M ≤ E) : (nd (2 ^ M)).length ≤ 1001 ∧ (nd (r + 2 ^ M)).length ≤ 1001 ∧ (nd r).length ≤ 1001 := by
  have h1 := blen_lt n
  have h2 : 2 ^ blen n ≤ 2 ^ E := Nat.pow_le_pow_right (by decide) hb
  have h3 : 2 ^ M ≤ 2 ^ E := Nat.pow_le_pow_right (by decide) hM
  have h4 := root_sq hr
  obtain ⟨k, hk⟩ : ∃ k, k = 1001 := ⟨_, rfl⟩
  have e : 2 ^ E * 4294967296 ≤ 2 ^ (32 * k) := by
    rw [show (4294967296 : Nat) = 2 ^ 32 from by decide, ← Nat.pow_add]
    exact Nat.pow_le_pow_right (by decide) (by omega)
  have h5 : 0 < 2 ^ E := Nat.two_pow_pos _
  rw [← hk]
  generalize (2 : Nat) ^ E = P at *
  exact ⟨nd_short (by omega), nd_short (by omega), nd_short (by omega)⟩
end Lev
namespace Go.Proofs.Ytdpmpfbbfknlmaa
open Go.RowKit Go.Shelf Lev

set_option maxRecDepth 100000 in
set_option maxHeartbeats 4000000 in
theorem root02_any (ds : List Nat) (A : Option Addr) (c : Nat) (w : World) (h : NatA w A ds c) (hl : blen (vN ds) ≤ 32000) :
    Calls Try.prog 65 #[.slice A ds.length c] w fun e w' => (∃ v r, e = .returned v ∧ IsN w' v r ∧ r * r ≤ vN ds ∧ vN ds < (r + 1) * (r + 1)) ∧ Below w.heap.size w w' := by
  have HLE := Lib.hid (len02_any ds A c w h)
  have HA := Lib.hid h
  have HTOP := Lib.hid (root_top (vN ds))
  have HSH := Lib.hid (fun r M => root_short (r := r) (M := M) (Nat.le_refl 32000) hl)
  have HFR := Lib.hid (fun W => from02_any 1 (by decide) W)
  have HSL := Lib.hid (fun M (hM : M ≤ 32000) W B cB hB => shl02_any (nd 1) B cB M (by omega) W hB (Nat.le_trans (nd_short (m := 1) (k := 1) (by decide)) (by omega)))
  have HAD := Lib.hid (fun (r s : Nat) (h1 : (nd r).length ≤ 1001) (h2 : (nd s).length ≤ 1001) W B C cB cC hB hC => add02_any (nd r) (nd s) B C cB cC W hB hC (by omega) (by omega))
  have HMU := Lib.hid (fun (x : Nat) (h1 : (nd x).length ≤ 1001) W B cB hB => mul02_any (nd x) (nd x) B B cB cB W hB hB (by omega) (by omega))
  have HCM := Lib.hid (fun (a : Nat) (B : Option Addr) (cb : Nat) W hB hW => cmp02_any (nd a) ds B A cb c W hB (HA.out.below hW))
  have HTR := Lib.hid (fun (r : Nat) (B : Option Addr) (cb : Nat) W hB => trim_any (nd r) B cb W hB)
  simp only [vN_nd, Nat.one_mul] at HSL HAD HMU HCM HTR
  generalize vN ds = N at *
  generalize hL : blen N = L at *
  clear h hL
  go_enter Try.func65, Try.ntmps65
  go_wp2_with fail
  refine (HLE.out).mono ?_
  rintro e w1 ⟨rfl, hb1⟩
  have HB1 := Lib.hid hb1
  clear hb1
  go_wp2_with fail
  go_loopw [3, 4] (fun rv iv wr => ∃ (r m : Nat) (B : Option Addr) (cB : Nat), rv = .slice B (nd r).length cB ∧ NatA wr B (nd r) cB ∧ iv = .int .i64 ((m : Int) - 1) ∧ m ≤ 16001 ∧ r * r ≤ N ∧ N < (r + 2 ^ m) * (r + 2 ^ m) ∧ Below w.heap.size w wr) (fun _ iv _ => (intOf iv + 1).toNat)
  case atStart => exact ⟨0, L / 2 + 1, none, 0, by rw [nd_zero]; rfl, by rw [nd_zero]; exact NatA.nil _ _ (by decide), by go_num, by omega, by omega, HTOP.out, HB1.out⟩
  case round =>
    obtain ⟨r, m, B, cB, rfl, hr, rfl, hm, hsq, htop, hbel⟩ := hrel
    have HR := Lib.hid hr; have HSQ := Lib.hid hsq; have HTP := Lib.hid htop; have HBL := Lib.hid hbel
    clear hr hsq htop hbel
    rcases Nat.eq_zero_or_pos m with h0 | h0
    · subst h0
      have HT := Lib.hid (HTR.out r B cB _ HR.out)
      go_wp2_with fail
      refine HT.out.mono ?_
      rintro e w2 ⟨⟨v, rfl, hv⟩, hb2⟩
      have HV := Lib.hid hv; have HB2 := Lib.hid (Below.chain HBL.out hb2)
      clear hv hb2
      go_wp2
      go_ret
      exact ⟨⟨_, r, rfl, HV.out, HSQ.out, HTP.out⟩, HB2.out⟩
    · obtain ⟨M, rfl⟩ : ∃ M, m = M + 1 := ⟨m - 1, by omega⟩
      have hM : ((M + 1 : Nat) : Int) - 1 = (M : Int) := by omega
      rw [hM]
      obtain ⟨s1, s2, s3⟩ := HSH.out r M HSQ.out (by omega)
      have HS1 := Lib.hid s1; have HS2 := Lib.hid s2; have HS3 := Lib.hid s3
      clear hM s1 s2 s3 h0
      have hge : (0 : Int) ≤ (M : Int) := by omega
      go_wp2_with fail
      refine (HFR.out _).mono ?_
      rintro e w2 ⟨⟨v, rfl, B2, c2, rfl, h2⟩, hb2⟩
      have H2 := Lib.hid h2; have HR2 := Lib.hid (HR.out.below hb2); have HBL2 := Lib.hid (Below.chain HBL.out hb2)
      clear h2 hb2
      go_wp2_with fail
      refine (HSL.out M (by omega) _ _ _ H2.out).mono ?_
      rintro e w3 ⟨⟨v, rfl, B3, c3, rfl, h3⟩, hb3⟩
      have H3 := Lib.hid h3; have HR3 := Lib.hid (HR2.out.below hb3); have HBL3 := Lib.hid (Below.chain HBL2.out hb3)
      clear h3 hb3
      go_wp2_with fail
      refine (HAD.out r (2 ^ M) HS3.out HS1.out _ _ _ _ _ HR3.out H3.out).mono ?_
      rintro e w4 ⟨⟨v, rfl, B4, c4, rfl, h4⟩, hb4⟩
      obtain ⟨x, hx⟩ : ∃ x, x = r + 2 ^ M := ⟨_, rfl⟩
      rw [← hx] at h4 HS2 ⊢
      have HX := Lib.hid hx
      have H4 := Lib.hid h4; have HR4 := Lib.hid (HR3.out.below hb4); have HBL4 := Lib.hid (Below.chain HBL3.out hb4)
      clear h4 hb4 hx
      go_wp2_with fail
      refine (HMU.out x HS2.out _ _ _ H4.out).mono ?_
      rintro e w5 ⟨⟨v, rfl, B5, c5, rfl, h5⟩, hb5⟩
      have H5 := Lib.hid h5; have HR5 := Lib.hid (HR4.out.below hb5); have HX5 := Lib.hid (H4.out.below hb5); have HBL5 := Lib.hid (Below.chain HBL4.out hb5)
      clear h5 hb5
      go_wp2_with fail
      refine (HCM.out (x * x) _ _ _ H5.out HBL5.out).mono ?_
      rintro e w6 ⟨rfl, hb6⟩
      have HR6 := Lib.hid (HR5.out.below hb6); have HX6 := Lib.hid (HX5.out.below hb6); have HBL6 := Lib.hid (Below.chain HBL5.out hb6)
      clear hb6
      have hcase : (decide (cmpN (x * x) N ≤ 0) = true ∧ x * x ≤ N) ∨ (decide (cmpN (x * x) N ≤ 0) = false ∧ N < x * x) := by
        rcases Nat.lt_or_ge N (x * x) with h | h
        · exact .inr ⟨cmpN_gt9 h, h⟩
        · exact .inl ⟨cmpN_le9 h, h⟩
      have HUP := Lib.hid (show N < (x + 2 ^ M) * (x + 2 ^ M) by rw [HX.out]; exact root_up HTP.out)
      have HLO := Lib.hid (fun (h : N < x * x) => show N < (r + 2 ^ M) * (r + 2 ^ M) by rw [← HX.out]; exact h)
      generalize cmpN (x * x) N = cm at *
      have HCS := Lib.hid hcase
      clear hcase
      rcases HCS.out with ⟨hc, hle⟩ | ⟨hc, hlt⟩
      · have HLE2 := Lib.hid hle
        clear hle
        go_wp2
        go_roundw
        case rel => exact ⟨x, M, B4, c4, rfl, HX6.out, by go_num, by omega, HLE2.out, HUP.out, HBL6.out⟩
        case measure => simp [intOf]
      · have HLT2 := Lib.hid hlt
        clear hlt
        go_wp2
        go_roundw
        case rel => exact ⟨r, M, B, cB, rfl, HR6.out, by go_num, by omega, HSQ.out, HLO.out HLT2.out, HBL6.out⟩
        case measure => simp [intOf]
end Go.Proofs.Ytdpmpfbbfknlmaa

/- Plain: a number above the root of a dyad. -/
namespace Lev
theorem odd_exp {n : Nat} {e a k : Int} (hn : n % 2 = 1) (hk : (n : Rat) * pw e = (k : Rat) * pw (-a)) : -a ≤ e := by
  rcases Int.lt_or_le e (-a) with h1 | h1
  · exfalso
    obtain ⟨m, hm⟩ : ∃ m : Nat, -a = e + 1 + m := ⟨(-a - (e + 1)).toNat, by omega⟩
    have h2 : pw (-a) = pw e * ((2 * 2 ^ m : Nat) : Rat) := by
      rw [hm, pw_add, pw_add, pw_nat, Rat.natCast_mul, show pw 1 = ((2 : Nat) : Rat) from by decide +kernel, Rat.mul_assoc]
    rw [h2] at hk
    have h4 : (n : Rat) = (k : Rat) * ((2 * 2 ^ m : Nat) : Rat) := by
      have h5 : (n : Rat) * pw e = ((k : Rat) * ((2 * 2 ^ m : Nat) : Rat)) * pw e := by rw [hk]; grind
      have h6 := congrArg (fun x => x * (pw e)⁻¹) h5
      simpa only [Rat.mul_assoc, Rat.mul_inv_cancel _ (pw_ne e), Rat.mul_one] using h6
    have h7 : ((k * ((2 * 2 ^ m : Nat) : Int) : Int) : Rat) = (k : Rat) * ((2 * 2 ^ m : Nat) : Rat) := by
      rw [Rat.intCast_mul]; rfl
    rw [← h7] at h4
    have h8 : ((n : Int) : Rat) = ((k * ((2 * 2 ^ m : Nat) : Int) : Int) : Rat) := h4
    have h9 := Rat.intCast_inj.1 h8
    have h10 : (n : Int) = 2 * (k * ((2 ^ m : Nat) : Int)) := by rw [h9, Int.natCast_mul]; grind
    generalize k * ((2 ^ m : Nat) : Int) = j at h10
    omega
  · exact h1
/-- The exponent and the bits of a dyad of few places. -/
theorem up_facts {n : Nat} {e : Int} (hn : n % 2 = 1) (hR : R 5000 5000 ((n : Rat) * pw e)) : 1 ≤ blen n ∧ -5000 ≤ e ∧ e + blen n ≤ 5000 := by
  obtain ⟨⟨k, hk⟩, hb⟩ := hR
  have h0 : n ≠ 0 := by omega
  have h1 := odd_exp hn hk
  have h2 := blen_ge h0
  have h3 : 1 ≤ blen n := by unfold blen; rw [if_neg h0]; omega
  refine ⟨h3, h1, ?_⟩
  have h4 : pw ((blen n - 1 : Nat) : Int) ≤ (n : Rat) := by rw [pw_nat]; exact cast_le.2 h2
  have h5 := Rat.mul_le_mul_of_nonneg_right h4 (Rat.le_of_lt (pw_pos e))
  rw [← pw_add] at h5
  have h6 : (n : Rat) * pw e ≤ ab ((n : Rat) * pw e) := by unfold ab; split <;> grind
  have h7 : pw (((blen n - 1 : Nat) : Int) + e) < pw 5000 := by grind
  have := pw_lt_iff.1 h7
  omega
theorem up_neg {n K : Nat} (hK : blen n + K ≤ 128) : n * 2 ^ K ≤ 2 ^ 128 ∧ (n : Rat) ≤ ((n * 2 ^ K : Nat) : Rat) * pw (-(K : Int)) := by
  constructor
  · have h1 := blen_lt n
    have h2 := Nat.mul_le_mul_right (2 ^ K) (Nat.le_of_lt h1)
    rw [← Nat.pow_add] at h2
    exact Nat.le_trans h2 (Nat.pow_le_pow_right (by decide) hK)
  · rw [Rat.natCast_mul, ← pw_nat, Rat.mul_assoc, ← pw_add, Int.add_right_neg, pw_zero, Rat.mul_one]
    exact Rat.le_refl
theorem up_pos {n C : Nat} (hC : blen n ≤ 128 + C) : n / 2 ^ C + 1 ≤ 2 ^ 128 ∧ (n : Rat) ≤ ((n / 2 ^ C + 1 : Nat) : Rat) * pw (C : Int) := by
  constructor
  · have h1 := blen_lt n
    have h2 : 2 ^ blen n ≤ 2 ^ 128 * 2 ^ C := by rw [← Nat.pow_add]; exact Nat.pow_le_pow_right (by decide) hC
    have h3 : n / 2 ^ C < 2 ^ 128 := (Nat.div_lt_iff_lt_mul (Nat.two_pow_pos C)).2 (by omega)
    omega
  · rw [pw_nat, ← Rat.natCast_mul]
    refine cast_le.2 ?_
    have h1 := Nat.div_add_mod n (2 ^ C)
    have h2 := Nat.mod_lt n (Nat.two_pow_pos C)
    rw [Nat.add_mul, Nat.one_mul, Nat.mul_comm]
    omega
theorem up_root {m r : Nat} (h : r * r ≤ m) (hm : m ≤ 2 ^ 128) : r + 1 < 2 ^ 65 := by
  rcases Nat.lt_or_ge (2 ^ 64) r with h1 | h1
  · exfalso
    have h2 := Nat.mul_le_mul (show 2 ^ 64 + 1 ≤ r from h1) (show 2 ^ 64 + 1 ≤ r from h1)
    have h3 : 2 ^ 128 < (2 ^ 64 + 1) * (2 ^ 64 + 1) := by decide
    omega
  · have : (2 : Nat) ^ 64 + 1 < 2 ^ 65 := by decide
    omega
theorem up_end {n m r : Nat} {e c q : Int} (h1 : (n : Rat) ≤ (m : Rat) * pw c) (h2 : m < (r + 1) * (r + 1)) (hq : e + c = 2 * q) (hr : r + 1 < 2 ^ 65) (hq1 : -3000 ≤ q) (hq2 : q ≤ 3000) :
    0 ≤ ((r + 1 : Nat) : Rat) * pw q ∧ (n : Rat) * pw e ≤ (((r + 1 : Nat) : Rat) * pw q) * (((r + 1 : Nat) : Rat) * pw q) ∧ R 3000 3100 (((r + 1 : Nat) : Rat) * pw q) := by
  have hp := Rat.le_of_lt (pw_pos q)
  have hn : (0 : Rat) ≤ ((r + 1 : Nat) : Rat) := Rat.natCast_nonneg
  refine ⟨Rat.mul_nonneg hn hp, ?_, ?_⟩
  · have h3 := Rat.mul_le_mul_of_nonneg_right h1 (Rat.le_of_lt (pw_pos e))
    have h4 : (m : Rat) ≤ (((r + 1) * (r + 1) : Nat) : Rat) := cast_le.2 (Nat.le_of_lt h2)
    have h5 := Rat.mul_le_mul_of_nonneg_right h4 (Rat.le_of_lt (pw_pos (e + c)))
    rw [Rat.natCast_mul] at h5
    have e1 : pw (e + c) = pw q * pw q := by rw [← pw_add]; congr 1; omega
    have e2 : pw (e + c) = pw c * pw e := by rw [← pw_add]; congr 1; omega
    generalize ((r + 1 : Nat) : Rat) = y at *
    have e3 : (m : Rat) * pw c * pw e = (m : Rat) * pw (e + c) := by rw [e2, Rat.mul_assoc]
    rw [e3] at h3
    have e4 : y * pw q * (y * pw q) = y * y * pw (e + c) := by rw [e1]; grind
    rw [e4]
    exact Rat.le_trans h3 h5
  · have h3 : R 0 65 ((r + 1 : Nat) : Rat) := R_nat (by
      rw [show (65 : Int) = ((65 : Nat) : Int) from rfl, pw_nat]; exact cast_lt.2 hr)
    have h4 : R 3000 3001 (pw q) := R_pw (by omega) (by omega)
    exact R_mono (R_mul h3 h4) (by omega) (by omega)
theorem blen_le {m k : Nat} (h : m ≤ 2 ^ k) : blen m ≤ k + 1 := by
  rcases Nat.lt_or_ge (k + 1) (blen m) with h1 | h1
  · exfalso
    have hz : m ≠ 0 := fun e => by rw [e] at h1; exact absurd h1 (Nat.not_lt_zero _)
    have h4 := blen_ge hz
    have h5 := Nat.pow_lt_pow_right (a := 2) (by decide) (show k < blen m - 1 by omega)
    omega
  · exact h1
end Lev

/- Contract of the document's bound of layer 9. -/
set_option linter.unusedVariables false
namespace Lev
/-- What bound tells, for one step. -/
def bdQ (U V : Rat) : Rat := U * V * 64 * pw (-53) + (U + V) * pw (-1060) + pw (-2140)
end Lev
namespace Go.Proofs.Ytdpmpfbbfknlmaa
open Go.RowKit Go.Shelf Lev

theorem times1_any (v : Value) (x : Rat) (w : World) (h : DyV w v x) (hq : Q x) :
    Calls Try.prog 47 #[v, .int .i64 1] w fun e w' => (∃ v', e = .returned v' ∧ DyV w' v' x) ∧ Below w.heap.size w w' := by
  have e : x * ((1 : Nat) : Rat) = x := by rw [show ((1 : Nat) : Rat) = 1 from rfl, Rat.mul_one]
  have := times04_any v x 1 w h (by decide) (by rw [e]; exact hq)
  rw [e] at this
  exact this
theorem times64_any (v : Value) (x : Rat) (w : World) (h : DyV w v x) (hq : Q (x * 64)) :
    Calls Try.prog 47 #[v, .int .i64 64] w fun e w' => (∃ v', e = .returned v' ∧ DyV w' v' (x * 64)) ∧ Below w.heap.size w w' :=
  times04_any v x 64 w h (by decide) hq
theorem c3_store {Y : World} {g a : Nat} (hne : a ≠ g) (v0 v1 v2 : Value) (k : Nat) : (stored3 Y g v0 v1 v2).cell? ⟨a, k, none⟩ = Y.cell? ⟨a, k, none⟩ := by
  unfold stored3
  rw [World.cell?_setCell_other _ ⟨g, 2, none⟩ ⟨a, k, none⟩ _ (fun e => hne (by simpa using (congrArg Addr.block e).symm)), World.cell?_setCell_other _ ⟨g, 1, none⟩ ⟨a, k, none⟩ _ (fun e => hne (by simpa using (congrArg Addr.block e).symm)), World.cell?_setCell_other _ ⟨g, 0, none⟩ ⟨a, k, none⟩ _ (fun e => hne (by simpa using (congrArg Addr.block e).symm))]

set_option maxRecDepth 100000 in
set_option maxHeartbeats 4000000 in
theorem bound09_any (va vb : Value) (U V : Rat) (w : World) (ha : DyV w va U) (hb : DyV w vb V) (hU : R 3000 3100 U) (hV : R 3000 3100 V) :
    Calls Try.prog 24 #[va, vb, .int .i64 1] w fun e w' => (∃ v', e = .returned v' ∧ DyV w' v' (bdQ U V)) ∧ Below w.heap.size w w' := by
  obtain ⟨d0, A0, c0, rfl, ha0, hv0⟩ := ha.a
  obtain ⟨d1, A1, c1, rfl, ha1, hv1⟩ := hb.a
  obtain ⟨E0, hE0⟩ : ∃ E0, E0 = ((w.alloc (.cells #[.bool d0.neg, .slice A0 (nd d0.n).length c0, .int .i64 d0.e] 49)).alloc (.cells #[.bool d1.neg, .slice A1 (nd d1.n).length c1, .int .i64 d1.e] 49)).alloc (.cells #[.bool false, .slice none 0 0, .int .i64 0] 49) := ⟨_, rfl⟩
  have k0 := (((KeepD.start w).push ha0).push (ha1.below (((KeepD.start w).push ha0).below))).pushz
  rw [← hE0] at k0
  simp only [World.size_alloc] at k0
  have K0 := Lib.hid k0
  have HE0 := Lib.hid hE0
  have HX0 := Lib.hid hv0; have HX1 := Lib.hid hv1
  have s1 : R 6000 6200 (U * V) := R_mul hU hV
  have s2 : R 6000 6207 (U * V * 64) := R_mul (a := 6000) (b := 6200) (c := 0) (d := 7) s1 (by have := R_nat (n := 64) (b := 7) (by rw [show (7 : Int) = ((7 : Nat) : Int) from rfl, pw_nat]; exact cast_lt.2 (by decide)); exact this)
  have s3 : R 6053 6208 (U * V * 64 * pw (-53)) := R_mul (a := 6000) (b := 6207) (c := 53) (d := 1) s2 (R_pw (by omega) (by omega))
  have s4 : R 3000 3101 (U + V) := R_add hU hV
  have s5 : R 4060 3102 ((U + V) * pw (-1060)) := R_mul (a := 3000) (b := 3101) (c := 1060) (d := 1) s4 (R_pw (by omega) (by omega))
  have s6 : R 6053 6209 (U * V * 64 * pw (-53) + (U + V) * pw (-1060)) := R_add s3 (R_mono s5 (by omega) (by omega))
  have s7 : R 6053 6210 (U * V * 64 * pw (-53) + (U + V) * pw (-1060) + pw (-2140)) := R_add s6 (R_pw (by omega) (by omega))
  have S1 := Lib.hid (R_Q s1 (by omega) (by omega)); have S2 := Lib.hid (R_Q s2 (by omega) (by omega)); have S3 := Lib.hid (R_Q s3 (by omega) (by omega)); have S4 := Lib.hid (R_Q s4 (by omega) (by omega)); have S5 := Lib.hid (R_Q s5 (by omega) (by omega)); have S6 := Lib.hid (R_Q s6 (by omega) (by omega)); have S7 := Lib.hid (R_Q s7 (by omega) (by omega))
  have S8 := Lib.hid (R_Q (R_pw (a := 2140) (b := 1) (k := -2140) (by omega) (by omega)) (by omega) (by omega))
  have HP53 := Lib.hid (fun W => pow04_any (-53) (by omega) (by omega) W)
  have HP1060 := Lib.hid (fun W => pow04_any (-1060) (by omega) (by omega) W)
  have HP2140 := Lib.hid (fun W => pow04_any (-2140) (by omega) (by omega) W)
  have HMU1 := Lib.hid (fun W u1 u2 h1 h2 => mul03_any u1 u2 U V W h1 h2 S1.out)
  have HTI64 := Lib.hid (fun W u1 h1 => times64_any u1 (U * V) W h1 S2.out)
  have HMU2 := Lib.hid (fun W u1 u2 h1 h2 => mul03_any u1 u2 (U * V * 64) (pw (-53)) W h1 h2 S3.out)
  have HAD1 := Lib.hid (fun W u1 u2 h1 h2 => add03_any u1 u2 U V W h1 h2 S4.out)
  have HTI1 := Lib.hid (fun W u1 h1 => times1_any u1 (U + V) W h1 S4.out)
  have HMU3 := Lib.hid (fun W u1 u2 h1 h2 => mul03_any u1 u2 (U + V) (pw (-1060)) W h1 h2 S5.out)
  have HTI2 := Lib.hid (fun W u1 h1 => times1_any u1 (pw (-2140)) W h1 S8.out)
  have HAD2 := Lib.hid (fun W u1 u2 h1 h2 => add03_any u1 u2 (U * V * 64 * pw (-53)) ((U + V) * pw (-1060)) W h1 h2 S6.out)
  have HAD3 := Lib.hid (fun W u1 u2 h1 h2 => add03_any u1 u2 (U * V * 64 * pw (-53) + (U + V) * pw (-1060)) (pw (-2140)) W h1 h2 S7.out)
  unfold bdQ
  clear s1 s2 s3 s4 s5 s6 s7 S1 S2 S3 S4 S5 S6 S7 S8
  generalize U * V * 64 * pw (-53) + (U + V) * pw (-1060) + pw (-2140) = P1 at *
  generalize U * V * 64 * pw (-53) + (U + V) * pw (-1060) = P2 at *
  generalize U * V * 64 * pw (-53) = P3 at *
  generalize U * V * 64 = P4 at *
  generalize (U + V) * pw (-1060) = P5 at *
  generalize U * V = P6 at *
  generalize U + V = P7 at *
  generalize pw (-2140) = P8 at *
  generalize pw (-1060) = P9 at *
  generalize pw (-53) = P10 at *
  have HDA := Lib.hid (fun Y (h : Below E0.heap.size E0 Y) => show DyV Y (dyV d0 A0 c0) U by have := ((K0.out.call h).val (.tail _ (.tail _ (.head _)))).v; rw [HX0.out] at this; exact this)
  have HDB := Lib.hid (fun Y (h : Below E0.heap.size E0 Y) => show DyV Y (dyV d1 A1 c1) V by have := ((K0.out.call h).val (.tail _ (.head _))).v; rw [HX1.out] at this; exact this)
  unfold dyV at HDA HDB ⊢
  clear ha hb ha0 ha1 hv0 hv1 hE0 k0 hU hV
  go_enter Try.func24, Try.ntmps24
  go_wp2_with fail
  rw [← HE0.out]
  refine (HMU1.out _ _ _ (HDA.out _ (Below.refl _ _)) (HDB.out _ (Below.refl _ _))).mono ?_
  rintro e w2 ⟨⟨v, rfl, hv⟩, hb2⟩
  have K2 := Lib.hid (K0.out.call hb2)
  obtain ⟨d2, A2, c2, rfl, ha2, hv2⟩ := hv.a
  have HV2 := Lib.hid hv
  unfold dyV at HV2 ⊢
  clear hv ha2 hv2 hb2
  go_wp2_with fail
  refine (HTI64.out _ _ HV2.out).mono ?_
  rintro e w3 ⟨⟨v, rfl, hv⟩, hb3⟩
  have K3 := Lib.hid (K2.out.call hb3)
  obtain ⟨d3, A3, c3, rfl, ha3, hv3⟩ := hv.a
  have HV3 := Lib.hid hv
  unfold dyV at HV3 ⊢
  clear hv ha3 hv3 hb3
  go_wp2_with fail
  refine (HP53.out _).mono ?_
  rintro e w4 ⟨⟨v, rfl, hv⟩, hb4⟩
  have K4 := Lib.hid (K3.out.call hb4)
  have hk3 := HV3.out.below hb4
  clear HV3
  have HV3 := Lib.hid hk3
  clear hk3
  obtain ⟨d4, A4, c4, rfl, ha4, hv4⟩ := hv.a
  have HV4 := Lib.hid hv
  unfold dyV at HV4 ⊢
  clear hv ha4 hv4 hb4
  go_wp2_with fail
  refine (HMU2.out _ _ _ HV3.out HV4.out).mono ?_
  rintro e w5 ⟨⟨v, rfl, hv⟩, hb5⟩
  obtain ⟨d5, A5, c5, rfl, ha5, hv5⟩ := hv.a
  have k5 := (K4.out.call hb5).push ha5
  obtain ⟨E5, hE5⟩ : ∃ E5, E5 = w5.alloc (.cells #[.bool d5.neg, .slice A5 (nd d5.n).length c5, .int .i64 d5.e] 49) := ⟨_, rfl⟩
  rw [← hE5] at k5
  obtain ⟨g5, hg5, k5⟩ := k5.name
  have K5 := Lib.hid k5
  have HE5 := Lib.hid hE5
  have HN5 := Lib.hid (show g5 ≠ w.heap.size + 2 by rw [← hg5]; exact Nat.ne_of_gt ((K4.out.call hb5).box (.head _)).lt)
  have HX5 := Lib.hid hv5
  have HG5 := Lib.hid hg5
  unfold dyV
  clear hv ha5 hb5 k5 hE5 hv5 hg5
  obtain ⟨p5x0a, p5x0b, p5x0c⟩ := (K5.out.box (.tail _ (.tail _ (.tail _ (.head _))))).c3
  rw [HE5.out] at p5x0a p5x0b p5x0c
  obtain ⟨p5x1a, p5x1b, p5x1c⟩ := (K5.out.box (.tail _ (.tail _ (.head _)))).c3
  rw [HE5.out] at p5x1a p5x1b p5x1c
  go_wp2_with fail
  rw [← HE5.out, HG5.out]
  clear HE5
  clear p5x0a p5x0b p5x0c p5x1a p5x1b p5x1c
  have HDA5 := Lib.hid (show DyV E5 (dyV d0 A0 c0) U by have := (K5.out.val (.tail _ (.tail _ (.tail _ (.head _))))).v; rw [HX0.out] at this; exact this)
  have HDB5 := Lib.hid (show DyV E5 (dyV d1 A1 c1) V by have := (K5.out.val (.tail _ (.tail _ (.head _)))).v; rw [HX1.out] at this; exact this)
  unfold dyV at HDA5 HDB5
  refine (HAD1.out _ _ _ HDA5.out HDB5.out).mono ?_
  rintro e w6 ⟨⟨v, rfl, hv⟩, hb6⟩
  have K6 := Lib.hid (K5.out.call hb6)
  obtain ⟨d6, A6, c6, rfl, ha6, hv6⟩ := hv.a
  have HV6 := Lib.hid hv
  unfold dyV at HV6 ⊢
  clear hv ha6 hv6 hb6
  go_wp2_with fail
  refine (HTI1.out _ _ HV6.out).mono ?_
  rintro e w7 ⟨⟨v, rfl, hv⟩, hb7⟩
  have K7 := Lib.hid (K6.out.call hb7)
  obtain ⟨d7, A7, c7, rfl, ha7, hv7⟩ := hv.a
  have HV7 := Lib.hid hv
  unfold dyV at HV7 ⊢
  clear hv ha7 hv7 hb7
  go_wp2_with fail
  refine (HP1060.out _).mono ?_
  rintro e w8 ⟨⟨v, rfl, hv⟩, hb8⟩
  have K8 := Lib.hid (K7.out.call hb8)
  have hk7 := HV7.out.below hb8
  clear HV7
  have HV7 := Lib.hid hk7
  clear hk7
  obtain ⟨d8, A8, c8, rfl, ha8, hv8⟩ := hv.a
  have HV8 := Lib.hid hv
  unfold dyV at HV8 ⊢
  clear hv ha8 hv8 hb8
  go_wp2_with fail
  refine (HMU3.out _ _ _ HV7.out HV8.out).mono ?_
  rintro e w9 ⟨⟨v, rfl, hv⟩, hb9⟩
  obtain ⟨d9, A9, c9, rfl, ha9, hv9⟩ := hv.a
  have k9 := (K8.out.call hb9).push ha9
  obtain ⟨E9, hE9⟩ : ∃ E9, E9 = w9.alloc (.cells #[.bool d9.neg, .slice A9 (nd d9.n).length c9, .int .i64 d9.e] 49) := ⟨_, rfl⟩
  rw [← hE9] at k9
  obtain ⟨g9, hg9, k9⟩ := k9.name
  have K9 := Lib.hid k9
  have HE9 := Lib.hid hE9
  have HN9 := Lib.hid (show g9 ≠ w.heap.size + 2 by rw [← hg9]; exact Nat.ne_of_gt ((K8.out.call hb9).box (.tail _ (.head _))).lt)
  have HX9 := Lib.hid hv9
  have HG9 := Lib.hid hg9
  unfold dyV
  clear hv ha9 hb9 k9 hE9 hv9 hg9
  go_wp2_with fail
  rw [← HE9.out, HG9.out]
  clear HE9
  refine (HP2140.out _).mono ?_
  rintro e w10 ⟨⟨v, rfl, hv⟩, hb10⟩
  have K10 := Lib.hid (K9.out.call hb10)
  obtain ⟨d10, A10, c10, rfl, ha10, hv10⟩ := hv.a
  have HV10 := Lib.hid hv
  unfold dyV at HV10 ⊢
  clear hv ha10 hv10 hb10
  go_wp2_with fail
  refine (HTI2.out _ _ HV10.out).mono ?_
  rintro e w11 ⟨⟨v, rfl, hv⟩, hb11⟩
  have K11 := Lib.hid (K10.out.call hb11)
  obtain ⟨d11, A11, c11, rfl, ha11, hv11⟩ := hv.a
  have HV11 := Lib.hid hv
  unfold dyV at HV11 ⊢
  clear hv ha11 hv11 hb11
  go_wp2_with fail
  refine (HTI2.out _ _ HV11.out).mono ?_
  rintro e w12 ⟨⟨v, rfl, hv⟩, hb12⟩
  obtain ⟨d12, A12, c12, rfl, ha12, hv12⟩ := hv.a
  have k12 := (K11.out.call hb12).push ha12
  obtain ⟨E12, hE12⟩ : ∃ E12, E12 = w12.alloc (.cells #[.bool d12.neg, .slice A12 (nd d12.n).length c12, .int .i64 d12.e] 49) := ⟨_, rfl⟩
  rw [← hE12] at k12
  obtain ⟨g12, hg12, k12⟩ := k12.name
  have K12 := Lib.hid k12
  have HE12 := Lib.hid hE12
  have HN12 := Lib.hid (show g12 ≠ w.heap.size + 2 by rw [← hg12]; exact Nat.ne_of_gt ((K11.out.call hb12).box (.tail _ (.tail _ (.head _)))).lt)
  have HX12 := Lib.hid hv12
  have HG12 := Lib.hid hg12
  unfold dyV
  clear hv ha12 hb12 k12 hE12 hv12 hg12
  go_wp2_with fail
  rw [← HE12.out, HG12.out]
  clear HE12
  have HNA := Lib.hid (fun Y (h : Below E12.heap.size E12 Y) => HAD2.out Y _ _ (by have := ((K12.out.call h).val (.tail _ (.tail _ (.head _)))).v; rw [HX5.out] at this; exact this) (by have := ((K12.out.call h).val (.tail _ (.head _))).v; rw [HX9.out] at this; exact this))
  have HNB := Lib.hid (fun Y u1 (h : Below E12.heap.size E12 Y) h1 => HAD3.out Y u1 _ h1 (by have := ((K12.out.call h).val (.head _)).v; rw [HX12.out] at this; exact this))
  unfold dyV at HNA HNB
  have HKE0 := Lib.hid (fun Y (h : Below E12.heap.size E12 Y) => And.intro ((K12.out.call h).box (.head _)).c3 (And.intro ((K12.out.call h).box (.tail _ (.head _))).c3 (And.intro ((K12.out.call h).box (.tail _ (.tail _ (.head _)))).c3 (h))))
  have HKE := Lib.hid (fun Y (h : Below E12.heap.size E12 Y) => show ((Y.cell? ⟨g12, 0, none⟩ = some (.bool d12.neg) ∧ Y.cell? ⟨g12, 1, none⟩ = some (.slice A12 (nd d12.n).length c12) ∧ Y.cell? ⟨g12, 2, none⟩ = some (.int .i64 d12.e)) ∧ (Y.cell? ⟨g9, 0, none⟩ = some (.bool d9.neg) ∧ Y.cell? ⟨g9, 1, none⟩ = some (.slice A9 (nd d9.n).length c9) ∧ Y.cell? ⟨g9, 2, none⟩ = some (.int .i64 d9.e)) ∧ (Y.cell? ⟨g5, 0, none⟩ = some (.bool d5.neg) ∧ Y.cell? ⟨g5, 1, none⟩ = some (.slice A5 (nd d5.n).length c5) ∧ Y.cell? ⟨g5, 2, none⟩ = some (.int .i64 d5.e)) ∧ Below w.heap.size w Y) from (by have q := HKE0.out Y h; exact ⟨q.1, q.2.1, q.2.2.1, (K12.out.call q.2.2.2).below⟩))
  have HKS := Lib.hid (fun Y v0 v1 v2 (h : Below E12.heap.size E12 Y) => show (((stored3 Y (w.heap.size + 2) v0 v1 v2).cell? ⟨g12, 0, none⟩ = some (.bool d12.neg) ∧ (stored3 Y (w.heap.size + 2) v0 v1 v2).cell? ⟨g12, 1, none⟩ = some (.slice A12 (nd d12.n).length c12) ∧ (stored3 Y (w.heap.size + 2) v0 v1 v2).cell? ⟨g12, 2, none⟩ = some (.int .i64 d12.e)) ∧ ((stored3 Y (w.heap.size + 2) v0 v1 v2).cell? ⟨g9, 0, none⟩ = some (.bool d9.neg) ∧ (stored3 Y (w.heap.size + 2) v0 v1 v2).cell? ⟨g9, 1, none⟩ = some (.slice A9 (nd d9.n).length c9) ∧ (stored3 Y (w.heap.size + 2) v0 v1 v2).cell? ⟨g9, 2, none⟩ = some (.int .i64 d9.e)) ∧ ((stored3 Y (w.heap.size + 2) v0 v1 v2).cell? ⟨g5, 0, none⟩ = some (.bool d5.neg) ∧ (stored3 Y (w.heap.size + 2) v0 v1 v2).cell? ⟨g5, 1, none⟩ = some (.slice A5 (nd d5.n).length c5) ∧ (stored3 Y (w.heap.size + 2) v0 v1 v2).cell? ⟨g5, 2, none⟩ = some (.int .i64 d5.e)) ∧ Below w.heap.size w (stored3 Y (w.heap.size + 2) v0 v1 v2)) from (by
    have q := HKE.out Y h
    rw [c3_store HN5.out, c3_store HN5.out, c3_store HN5.out, c3_store HN9.out, c3_store HN9.out, c3_store HN9.out, c3_store HN12.out, c3_store HN12.out, c3_store HN12.out]
    exact ⟨q.1, q.2.1, q.2.2.1, Below.setCell (Below.setCell (Below.setCell q.2.2.2 (by dsimp only; omega) _) (by dsimp only; omega) _) (by dsimp only; omega) _⟩))
  unfold stored3 at HKS
  go_region_held3 (fun Y => ((Y.cell? ⟨g12, 0, none⟩ = some (.bool d12.neg) ∧ Y.cell? ⟨g12, 1, none⟩ = some (.slice A12 (nd d12.n).length c12) ∧ Y.cell? ⟨g12, 2, none⟩ = some (.int .i64 d12.e)) ∧ (Y.cell? ⟨g9, 0, none⟩ = some (.bool d9.neg) ∧ Y.cell? ⟨g9, 1, none⟩ = some (.slice A9 (nd d9.n).length c9) ∧ Y.cell? ⟨g9, 2, none⟩ = some (.int .i64 d9.e)) ∧ (Y.cell? ⟨g5, 0, none⟩ = some (.bool d5.neg) ∧ Y.cell? ⟨g5, 1, none⟩ = some (.slice A5 (nd d5.n).length c5) ∧ Y.cell? ⟨g5, 2, none⟩ = some (.int .i64 d5.e)) ∧ Below w.heap.size w Y))
    (first | (refine HKS.out _ _ _ _ ?_; (repeat (first | assumption | exact Below.refl _ _ | refine Below.allocs ?_ _ | refine Below.drews ?_ | refine Below.chain ?_ (by assumption)))) | (refine HKE.out _ ?_; (repeat (first | assumption | exact Below.refl _ _ | refine Below.allocs ?_ _ | refine Below.drews ?_ | refine Below.chain ?_ (by assumption)))))
    (first
      | (go_at_call 43; ((with_reducible refine (HNA.out _ (by repeat (first | assumption | exact Below.refl _ _ | refine Below.allocs ?_ _ | refine Below.drews ?_ | refine Below.chain ?_ (by assumption)))).mono ?_); rintro e y20 ⟨⟨v, rfl, hsv⟩, hb20⟩; obtain ⟨d20, A20, c20, rfl, ha20, hv20⟩ := hsv.a; unfold dyV at *))
      | (go_at_call 43; ((with_reducible refine (HNB.out _ _ (by repeat (first | assumption | exact Below.refl _ _ | refine Below.allocs ?_ _ | refine Below.drews ?_ | refine Below.chain ?_ (by assumption))) (hsv.below (by repeat (first | assumption | exact Below.refl _ _ | refine Below.allocs ?_ _ | refine Below.drews ?_ | refine Below.chain ?_ (by assumption))))).mono ?_); rintro e y21 ⟨⟨v, rfl, htv⟩, hb21⟩; obtain ⟨d21, A21, c21, rfl, ha21, hv21⟩ := htv.a; have hbE : Below E12.heap.size E12 y21 := (Below.chain (by repeat (first | assumption | exact Below.refl _ _ | refine Below.allocs ?_ _ | refine Below.drews ?_ | refine Below.chain ?_ (by assumption))) hb21); have bx := (K12.out.call hbE).box (.tail _ (.tail _ (.tail _ (.head _)))); obtain ⟨x0, x1, x2⟩ := bx.c3; obtain ⟨y0, y1, y2⟩ := bx.f3; unfold dyV at *)))
  all_goals
    have KZ := Lib.hid ((K12.out.call hbE).store (.tail _ (.tail _ (.tail _ (.head _)))) (L' := []) (fun y hy => absurd hy List.not_mem_nil) ha21)
    have HV21 := Lib.hid hv21
    go_wp2
    refine ret_dy1 (v0 := .bool d21.neg) (v1 := .slice A21 (nd d21.n).length c21) (v2 := .int .i64 d21.e) (g := w.heap.size + 2) rfl rfl (KZ.out.box (.head _)) rfl ?_
    exact ⟨⟨_, rfl, by rw [← HV21.out]; exact (KZ.out.val (.head _)).v⟩, KZ.out.below⟩
end Go.Proofs.Ytdpmpfbbfknlmaa

/- Contract of the document's faded lists of dyads: Fade. -/
set_option linter.unusedVariables false
namespace Go.Proofs.Ytdpmpfbbfknlmaa
open Go.RowKit Go.Shelf Lev

set_option maxRecDepth 100000 in
set_option maxHeartbeats 4000000 in
theorem fade08_any (l : List DyE) (A : Option Addr) (ca : Nat) (b : Nat) (w : World) (ha : DyL w A l ca) (hl : l.length ≤ 1000) (hb : b < 18446744073709551616) (hf : fin b)
    (hq : ∀ j, j < l.length → R 2148 3000 (lv l j)) :
    Calls Try.prog 7 #[.slice A l.length ca, .float .f64 b] w fun e w' => (∃ C o c, e = .returned (.tuple #[.slice C l.length c, .bool true]) ∧ DyL w' C o c ∧ o.length = l.length ∧ ∀ j (h : j < o.length), o[j].1.v = lv l j * fv b * fv b) ∧ Below w.heap.size w w' := by
  have HA := Lib.hid ha; have HQ := Lib.hid hq
  have HFR := Lib.hid (fun W => from03_any b hb hf W)
  have HRB := Lib.hid (R_fv hf)
  have K0 := Lib.hid (KeepD.start w)
  generalize fv b = bt at *
  clear ha hq
  go_enter Try.func7, Try.ntmps7
  go_wp2_with fail
  refine (HFR.out _).mono ?_
  rintro e w1 ⟨⟨v, rfl, hv⟩, hb1⟩
  obtain ⟨d1, A1, c1, rfl, ha1, hv1⟩ := hv.a
  have k1 := (K0.out.call hb1).push ha1
  obtain ⟨E1, hE1⟩ : ∃ E1, E1 = w1.alloc (.cells #[.bool d1.neg, .slice A1 (nd d1.n).length c1, .int .i64 d1.e] 49) := ⟨_, rfl⟩
  rw [← hE1] at k1
  obtain ⟨g1, hg1, k1⟩ := k1.name
  have K1 := Lib.hid k1
  have HE1 := Lib.hid hE1
  have HX1 := Lib.hid hv1
  have HG1 := Lib.hid hg1
  unfold dyV
  clear hv ha1 hb1 k1 hE1 hv1 hg1
  go_wp2_with fail
  rw [← HE1.out, HG1.out]
  clear HE1
  have HBE := Lib.hid K1.out.below
  have HAE := Lib.hid (HA.out.below K1.out.below)
  trace_state
  go_loopw [8, 9] (fun v i wr => ∃ (k : Nat) (o : List DyE), k ≤ l.length ∧ i = .int .i64 (k : Int) ∧ DyRow wr E1.heap.size v o ∧ o.length = k ∧ (∀ j (h : j < o.length), o[j].1.v = lv l j * bt * bt) ∧ Below E1.heap.size E1 wr) (fun _ i _ => l.length - (intOf i).toNat)
  case atStart => exact ⟨0, [], Nat.zero_le _, rfl, DyRow.nil _ _, rfl, fun j h => absurd h (Nat.not_lt_zero _), Below.refl _ _⟩
  case round =>
    obtain ⟨k, o, hk, rfl, hown, hol, hval, hbel⟩ := hrel
    by_cases hlt : (k : Int) < (l.length : Int)
    · have hkl : k < l.length := by omega
      have hAk := HAE.out.below hbel
      obtain ⟨b1, off1, rfl, hb1, _⟩ := hAk.reads (by omega)
      obtain ⟨⟨a0, a1, a2⟩, hd1⟩ := hAk.at hkl
      have hqk := HQ.out k hkl
      have HVS := Lib.hid (fun (x : DyE) (hx : x.1.v = lv l k * bt * bt) => vals_snoc hval hol hx)
      rw [lv_get hkl] at hqk HVS
      have hq1 : R 3222 4025 (l[k].1.v * bt) := R_mul hqk HRB.out
      have hq2 : R 4296 5050 (l[k].1.v * bt * bt) := R_mul hq1 HRB.out
      have hd1' := HAE.out.dy _ (List.getElem_mem hkl)
      have HMA := Lib.hid (fun W (h : Below E1.heap.size E1 W) => mul03_any _ _ _ _ W (hd1'.below h).v (show DyV W (dyV d1 A1 c1) bt by have := ((K1.out.call h).val (.head _)).v; rw [HX1.out] at this; exact this) (R_Q hq1 (by omega) (by omega)))
      have HMB := Lib.hid (fun W u (h : Below E1.heap.size E1 W) hu => mul03_any u _ _ _ W hu (show DyV W (dyV d1 A1 c1) bt by have := ((K1.out.call h).val (.head _)).v; rw [HX1.out] at this; exact this) (R_Q hq2 (by omega) (by omega)))
      have KA := Lib.hid (fun Y (h : Below E1.heap.size E1 Y) => (HAE.out.below h).at hkl)
      unfold dyV at HMA HMB
      have HO := Lib.hid hown; have HOL := Lib.hid hol; have HBL := Lib.hid hbel; have HSZ := Lib.hid hbel.size
      clear hd1 hqk hq1 hq2 hown hol hval hAk hd1'
      generalize l[k].1.v * bt * bt = sv at *
      generalize l[k].1.v * bt = sw at *
      generalize hx : l[k] = x at *
      obtain ⟨d2, A2, c2⟩ := x
      have HKE := Lib.hid (fun Y (h : Below E1.heap.size E1 Y) => And.intro (KA.out Y h).1 (And.intro ((K1.out.call h).box (.head _)).c3 h))
      obtain ⟨e0, e1, e2⟩ := ((K1.out.call hbel).box (.head _)).c3
      dsimp only at a0 a1 a2 HMA HKE
      clear hx hkl KA
      have hbelW : Below E1.heap.size E1 wr := hbel
      clear hbel a0 a1 a2 e0 e1 e2
      go_wp2_with fail
      go_region_held3 (fun Y => (Y.cell? ⟨b1, off1 + k * 3, none⟩ = some (.bool d2.neg) ∧ Y.cell? ⟨b1, off1 + k * 3 + 1, none⟩ = some (.slice A2 (nd d2.n).length c2) ∧ Y.cell? ⟨b1, off1 + k * 3 + 2, none⟩ = some (.int .i64 d2.e)) ∧ (Y.cell? ⟨g1, 0, none⟩ = some (.bool d1.neg) ∧ Y.cell? ⟨g1, 1, none⟩ = some (.slice A1 (nd d1.n).length c1) ∧ Y.cell? ⟨g1, 2, none⟩ = some (.int .i64 d1.e)) ∧ Below E1.heap.size E1 Y)
        ((refine HKE.out _ ?_; (repeat (first | assumption | exact Below.refl _ _ | refine Below.allocs ?_ _ | refine Below.drews ?_ | refine Below.chain ?_ (by assumption)))))
        (first
          | (go_at_call 17; (with_reducible refine (HMA.out _ (by repeat (first | assumption | exact Below.refl _ _ | refine Below.allocs ?_ _ | refine Below.drews ?_ | refine Below.chain ?_ (by assumption)))).mono ?_); rintro e w4 ⟨⟨v, rfl, hmv⟩, hb4⟩; obtain ⟨d4, A4, c4, rfl, ha4, hv4⟩ := hmv.a; unfold dyV at *)
          | (go_at_call 17; (with_reducible refine (HMB.out _ _ (by repeat (first | assumption | exact Below.refl _ _ | refine Below.allocs ?_ _ | refine Below.drews ?_ | refine Below.chain ?_ (by assumption))) (hmv.below (by repeat (first | assumption | exact Below.refl _ _ | refine Below.allocs ?_ _ | refine Below.drews ?_ | refine Below.chain ?_ (by assumption))))).mono ?_); rintro e w5 ⟨⟨v, rfl, hv⟩, hb5⟩; obtain ⟨d5, A5, c5, rfl, ha5, hv5⟩ := hv.a; have hb6 : Below wr.heap.size wr w5 := (Below.chain (by repeat (first | assumption | exact Below.refl _ _ | refine Below.allocs ?_ _ | refine Below.drews ?_ | refine Below.chain ?_ (by assumption))) hb5); have HO5 := HO.out.call hb6; have hs5 := hb6.size; unfold dyV)
          | ((refine step_append_dy _ (by rfl) _ _ 30 Try.underlying30 (by rfl) E1.heap.size _ o k HOL.out (by rfl) (HO5.call ((Below.refl _ _).alloc (Nat.le_refl _) _)) w5.heap.size (by rfl) (d5, A5, c5) (heap_alloc_new _ _) (ha5.below ((Below.refl _ _).alloc (Nat.le_refl _) _)) (by rw [World.size_alloc]; have := HSZ.out; omega) (by omega) ?_; intro g cap w3 hrow3 hb3; have hb7 : Below E1.heap.size E1 w3 := ((Below.chain HBL.out hb6).alloc (by have := HSZ.out; omega) _).trans hb3)))
      go_wp2
      go_roundw
      case rel => exact ⟨k + 1, o ++ [(d5, A5, c5)], by omega, by go_num, hrow3, by rw [List.length_append, HOL.out]; rfl, HVS.out _ hv5, hb7⟩
      case measure => simp [intOf]; omega
    · obtain rfl : k = l.length := by omega
      obtain ⟨C, c3, rfl, hL⟩ := hown.list
      have HL := Lib.hid hL; have HVAL := Lib.hid hval; have HBL := Lib.hid (Below.chain HBE.out hbel)
      rw [hol]
      have HOL := Lib.hid hol
      clear hown hL hval hbel hol
      go_wp2
      go_ret2
      exact ⟨⟨C, o, c3, rfl, HL.out, HOL.out, HVAL.out⟩, HBL.out⟩
end Go.Proofs.Ytdpmpfbbfknlmaa
