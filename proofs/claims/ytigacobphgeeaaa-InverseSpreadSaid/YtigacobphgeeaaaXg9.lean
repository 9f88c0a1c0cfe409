/- Package inverse: each, the library's Max, one. -/
import Derived.Test.YtigacobphgeeaaaXf9
set_option linter.unusedVariables false
namespace Go.Proofs.Ytigacobphgeeaaa
open Go.RowKit Go.Shelf Lev

/-- The first q cells are floats that tell F. -/
def Told (cells : Array Value) (F : Nat → Nat) (q : Nat) : Prop := ∀ i, i < q → ∃ v, cells[i]? = some (.float .f64 v) ∧ v < 18446744073709551616 ∧ cn v = F i
theorem Told.set {cells : Array Value} {F : Nat → Nat} {q v : Nat} (h : Told cells F q) (hq : q < cells.size) (hv : v < 18446744073709551616) (hc : cn v = F q) : Told (cells.setIfInBounds q (.float .f64 v)) F (q + 1) := fun i hi => by
  by_cases e : i = q
  · subst e; exact ⟨v, Array.getElem?_setIfInBounds_self_of_lt hq, hv, hc⟩
  · obtain ⟨u, h1, h2⟩ := h i (by omega)
    exact ⟨u, by rw [Array.getElem?_setIfInBounds_ne (by omega)]; exact h1, h2⟩
theorem Told.arg {w : World} {g n : Nat} {t : TypeId} {cells : Array Value} {F : Nat → Nat} (h : Told cells F n) (hB : Bk w g t cells) (hn : n ≤ 1000) : ∃ l, SlArg w (some ⟨g, 0, none⟩) l n ∧ l.length = n ∧ ∀ i, i < n → cn (l[i]?.getD 0) = F i := by
  have h2 : ∀ i : Nat, ∃ v : Nat, v < 18446744073709551616 ∧ (i < n → cells[i]? = some (.float .f64 v) ∧ cn v = F i) := fun i => by
    by_cases hi : i < n
    · obtain ⟨v, h1, h2, h3⟩ := h i hi
      exact ⟨v, h2, fun _ => ⟨h1, h3⟩⟩
    · exact ⟨0, by decide, fun h => absurd h hi⟩
  obtain ⟨V, hV⟩ := Classical.axiomOfChoice h2
  have hl : ((List.range n).map V).length = n := by rw [List.length_map, List.length_range]
  have hg : ∀ i, i < n → ((List.range n).map V)[i]?.getD 0 = V i := fun i hi => by rw [List.getElem?_map, List.getElem?_range hi]; rfl
  refine ⟨(List.range n).map V, ⟨⟨fun x hx => ?_, fun _ => ⟨g, 0, rfl, hB.lt, fun j hj => ?_⟩⟩, by rw [hl]; exact Nat.le_refl _, by omega⟩, hl, fun i hi => ?_⟩
  · rw [List.mem_map] at hx
    obtain ⟨i, _, rfl⟩ := hx
    exact (hV i).1
  · rw [hl] at hj
    rw [Nat.zero_add, hB.cell, hg j hj]; exact ((hV j).2 hj).1
  · rw [hg i hi]; exact ((hV i).2 hi).2

attribute [local go_sem] run_store_float order_lt order_gt order_eq order_ne

set_option maxRecDepth 100000 in
set_option maxHeartbeats 2000000 in
theorem eachCol (n : Nat) (hn : n ≤ 6) (B c : Nat) (w : World) (F : Nat → Nat)
    (hF : ∀ i, i < n → ∀ W, Below w.heap.size w W → Calls Try.prog 71 #[.slice (some ⟨B, 0, none⟩) n c, .int .i64 (i : Int)] W fun e w' => (∃ v, e = .returned (.float .f64 v) ∧ v < 18446744073709551616 ∧ cn v = F i) ∧ ∃ t, w' = W.drewN t) :
    Calls Try.prog 45 #[.slice (some ⟨B, 0, none⟩) n c, .func (.func 71) #[] #[]] w fun e w' => (e = .returned (.slice (some ⟨w.heap.size, 0, none⟩) n n) ∧ ∃ cells, Bk w' w.heap.size 29 cells ∧ cells.size = n ∧ Told cells F n) ∧ Below w.heap.size w w' := by
  have HF := Lib.hid hF
  have hmk2 := fun w => run_make_row' (P := Try.prog) 22 29 (.float .f64 0) 8 Try.underlying22 info_f64' rfl .i64 .i64 n (by omega) (by omega) w
  clear hF
  go_enter Try.func45, Try.ntmps45
  go_wp2_with fail
  go_loopw [12] (fun iv wr => ∃ (q : Nat) (cells : Array Value), q ≤ n ∧ iv = .int .i64 (q : Int) ∧ Bk wr w.heap.size 29 cells ∧ cells.size = n ∧ Told cells F q ∧ Below w.heap.size w wr) (fun iv _ => n - (intOf iv).toNat)
  case atStart => exact ⟨0, _, Nat.zero_le _, rfl, Bk.new _ _ _, size_madeCells _ _, fun i hi => absurd hi (Nat.not_lt_zero _), (Below.refl _ _).alloc (Nat.le_refl _) _⟩
  case round =>
    obtain ⟨q, cells, hq, rfl, hB, hsz, hT, hbl⟩ := hrel
    have HB := Lib.hid hB; have HSZ := Lib.hid hsz; have HT := Lib.hid hT; have HBL := Lib.hid hbl
    by_cases hlt : (q : Int) < (n : Int)
    · have H1 := Lib.hid (HF.out q (by omega) wr hbl)
      obtain ⟨u, hcu⟩ : ∃ u, cells[q]? = some u := ⟨_, Array.getElem?_eq_getElem (by omega)⟩
      have HCU := Lib.hid hcu
      clear hB hsz hT hbl hcu
      go_wp2_with fail
      refine H1.out.mono ?_
      rintro e w5 ⟨⟨v, rfl, hv, hcv⟩, t, rfl⟩
      have c0 : (wr.drewN t).cell? ⟨w.heap.size, q, none⟩ = some u := (HB.out.cell q).trans HCU.out
      have f0 : (wr.drewN t).frozen? ⟨w.heap.size, q, none⟩ = false := HB.out.frozen q
      have HV := Lib.hid hv; have HCV := Lib.hid hcv
      clear hv hcv
      go_wp2
      go_roundw
      case rel => exact ⟨q + 1, _, by omega, by go_num, (HB.out.drewN t).set q _, by rw [Array.size_setIfInBounds]; exact HSZ.out, HT.out.set (by have := HSZ.out; omega) HV.out HCV.out, (HBL.out.drewN t).setCell (Nat.le_refl _) _⟩
      case measure => simp [intOf]; omega
    · have hqe : q = n := by omega
      rw [hqe] at hT
      have HL := Lib.hid (And.intro hB (And.intro hsz hT))
      clear hB hsz hT hbl hqe
      go_wp2
      go_ret
      exact ⟨⟨rfl, _, HL.out⟩, HBL.out⟩

set_option maxRecDepth 100000 in
set_option maxHeartbeats 2000000 in
theorem eachSize (n : Nat) (hn : n ≤ 6) (B c : Nat) (w : World) (F : Nat → Nat)
    (hF : ∀ i, i < n → ∀ W, Below w.heap.size w W → Calls Try.prog 46 #[.slice (some ⟨B, 0, none⟩) n c, .int .i64 (i : Int)] W fun e w' => (∃ v, e = .returned (.float .f64 v) ∧ v < 18446744073709551616 ∧ cn v = F i) ∧ ∃ t, w' = W.drewN t) :
    Calls Try.prog 45 #[.slice (some ⟨B, 0, none⟩) n c, .func (.func 46) #[] #[]] w fun e w' => (e = .returned (.slice (some ⟨w.heap.size, 0, none⟩) n n) ∧ ∃ cells, Bk w' w.heap.size 29 cells ∧ cells.size = n ∧ Told cells F n) ∧ Below w.heap.size w w' := by
  have HF := Lib.hid hF
  have hmk2 := fun w => run_make_row' (P := Try.prog) 22 29 (.float .f64 0) 8 Try.underlying22 info_f64' rfl .i64 .i64 n (by omega) (by omega) w
  clear hF
  go_enter Try.func45, Try.ntmps45
  go_wp2_with fail
  go_loopw [12] (fun iv wr => ∃ (q : Nat) (cells : Array Value), q ≤ n ∧ iv = .int .i64 (q : Int) ∧ Bk wr w.heap.size 29 cells ∧ cells.size = n ∧ Told cells F q ∧ Below w.heap.size w wr) (fun iv _ => n - (intOf iv).toNat)
  case atStart => exact ⟨0, _, Nat.zero_le _, rfl, Bk.new _ _ _, size_madeCells _ _, fun i hi => absurd hi (Nat.not_lt_zero _), (Below.refl _ _).alloc (Nat.le_refl _) _⟩
  case round =>
    obtain ⟨q, cells, hq, rfl, hB, hsz, hT, hbl⟩ := hrel
    have HB := Lib.hid hB; have HSZ := Lib.hid hsz; have HT := Lib.hid hT; have HBL := Lib.hid hbl
    by_cases hlt : (q : Int) < (n : Int)
    · have H1 := Lib.hid (HF.out q (by omega) wr hbl)
      obtain ⟨u, hcu⟩ : ∃ u, cells[q]? = some u := ⟨_, Array.getElem?_eq_getElem (by omega)⟩
      have HCU := Lib.hid hcu
      clear hB hsz hT hbl hcu
      go_wp2_with fail
      refine H1.out.mono ?_
      rintro e w5 ⟨⟨v, rfl, hv, hcv⟩, t, rfl⟩
      have c0 : (wr.drewN t).cell? ⟨w.heap.size, q, none⟩ = some u := (HB.out.cell q).trans HCU.out
      have f0 : (wr.drewN t).frozen? ⟨w.heap.size, q, none⟩ = false := HB.out.frozen q
      have HV := Lib.hid hv; have HCV := Lib.hid hcv
      clear hv hcv
      go_wp2
      go_roundw
      case rel => exact ⟨q + 1, _, by omega, by go_num, (HB.out.drewN t).set q _, by rw [Array.size_setIfInBounds]; exact HSZ.out, HT.out.set (by have := HSZ.out; omega) HV.out HCV.out, (HBL.out.drewN t).setCell (Nat.le_refl _) _⟩
      case measure => simp [intOf]; omega
    · have hqe : q = n := by omega
      rw [hqe] at hT
      have HL := Lib.hid (And.intro hB (And.intro hsz hT))
      clear hB hsz hT hbl hqe
      go_wp2
      go_ret
      exact ⟨⟨rfl, _, HL.out⟩, HBL.out⟩

set_option maxRecDepth 100000 in
set_option maxHeartbeats 2000000 in
theorem smax_any (l : List Nat) (A : Option Addr) (c : Nat) (w : World) (hl : SlArg w A l c) (h1 : 1 ≤ l.length) (h6 : l.length ≤ 1000) (hp : ∀ i, i < l.length → l[i]?.getD 0 ≤ INF) :
    Calls Try.prog 70 #[.slice A l.length c] w fun e w' => e = .returned (.float .f64 (maxL (fun i => l[i]?.getD 0) l.length)) ∧ w = w' := by
  obtain ⟨b, o, rfl, _, hc⟩ := hl.reads.2 h1
  have HC := Lib.hid hc; have HP := Lib.hid hp
  have a0 : w.cell? ⟨b, o, none⟩ = some (.float .f64 (l[0]?.getD 0)) := by have := hc 0 h1; rwa [Nat.add_zero] at this
  have HM1 := Lib.hid (maxL_one (c := fun i => l[i]?.getD 0) (hp 0 h1))
  have t0 : decide ((l.length : Int) < 1) = false := by rw [decide_eq_false_iff_not]; omega
  have t1 : (0 : Int) < (l.length : Int) := by omega
  clear hl hc hp
  go_enter Try.func70, Try.ntmps70
  go_wp2_with fail
  go_loopw [3, 4] (fun mv iv wr => ∃ q : Nat, 1 ≤ q ∧ q ≤ l.length ∧ iv = .int .i64 (q : Int) ∧ mv = .float .f64 (maxL (fun i => l[i]?.getD 0) q) ∧ wr = w) (fun _ iv _ => l.length - (intOf iv).toNat)
  case atStart => exact ⟨1, Nat.le_refl _, h1, rfl, by rw [HM1.out], rfl⟩
  case round =>
    obtain ⟨q, hq1, hq, rfl, rfl, rfl⟩ := hrel
    by_cases hlt : (q : Int) < (l.length : Int)
    · have hc := HC.out q (by omega)
      have hrun := fun w ts t => run_maxF (P := Try.prog) w ts t (x := maxL (fun i => l[i]?.getD 0) q) (y := l[q]?.getD 0) (maxL_pos q (fun i hi => HP.out i (by omega))) (HP.out q (by omega))
      have hs : maxL (fun i => l[i]?.getD 0) (q + 1) = if flt (maxL (fun i => l[i]?.getD 0) q) (l[q]?.getD 0) = true then l[q]?.getD 0 else maxL (fun i => l[i]?.getD 0) q := rfl
      rw [← hs] at hrun
      have HS := Lib.hid hs
      generalize hs1 : maxL (fun i => l[i]?.getD 0) (q + 1) = s1 at *
      have HS1 := Lib.hid hs1
      generalize maxL (fun i => l[i]?.getD 0) q = s0 at *
      generalize l[q]?.getD 0 = x at *
      clear hs hs1 a0 t0
      go_wp2
      go_roundw
      case rel => exact ⟨q + 1, by omega, by omega, by go_num, by rw [HS1.out], trivial⟩
      case measure => simp [intOf]; omega
    · obtain rfl : q = l.length := by omega
      go_wp2
      go_ret
      exact ⟨rfl, rfl⟩

set_option maxRecDepth 100000 in
set_option maxHeartbeats 2000000 in
theorem one_any (g : Nat → Nat → Nat) (n : Nat) (h1 : 1 ≤ n) (hn : n ≤ 6) (B : Nat) (b o k : Nat → Nat) (M : Nat → Nat → Nat) (c : Nat) (w : World) (hc : n ≤ c ∧ c ≤ 9223372036854775807) (hm : RMat w B n b o k M) (hg : ∀ i j, i ≤ j → j < n → M i j = g i j) (hf : ∀ i j, i ≤ j → j < n → rg (g i j) < INF) :
    Calls Try.prog 38 #[.slice (some ⟨B, 0, none⟩) n c] w fun e w' => e = .returned (.float .f64 (oneS g n)) ∧ Below w.heap.size w w' := by
  have hcp : ∀ j, j < n → colS g j ≤ INF := fun j hj => colL_pos (j + 1) (fun i hi => hf i j (by omega) hj)
  have HEA := Lib.hid (eachCol n hn B c w (fun j => colS g j) (fun i hi W hW => (column_any g n i hi hn B b o k M c W hc (hm.below hW) (fun a ha => hg a i ha hi) (fun a ha => hf a i ha hi)).mono (fun e w' ⟨he, hw⟩ => ⟨⟨_, he, by have := (pos_word (hcp i hi)).2.2; exact this, cn_num (by have := (pos_word (hcp i hi)).1; have := hcp i hi; omega)⟩, 0, by subst hw; rfl⟩)))
  have HCP := Lib.hid hcp
  clear hm hg hf hcp
  go_enter Try.func38, Try.ntmps38
  go_wp2_with fail
  refine HEA.out.mono ?_
  rintro e w1 ⟨⟨rfl, cells, hBk, hcs, hTd⟩, hb⟩
  obtain ⟨l, hs, hl, hv⟩ := hTd.arg hBk (by omega)
  clear hBk hcs hTd
  have hv2 : ∀ i, i < n → l[i]?.getD 0 = colS g i := fun i hi => by
    have h2 := hv i hi
    have h3 := HCP.out i hi
    by_cases h4 : INF < rg (l[i]?.getD 0)
    · rw [cn_nan h4] at h2
      exfalso
      have : nanc ≤ INF := by rw [h2]; exact h3
      exact absurd this (by decide)
    · rw [cn_num h4] at h2; exact h2
  have hmx := smax_any l (some ⟨w.heap.size, 0, none⟩) n w1 hs (by omega) (by omega) (fun i hi => by rw [hv2 i (by omega)]; exact HCP.out i (by omega))
  have hone : ∀ m, m ≤ n → maxL (fun i => l[i]?.getD 0) m = maxL (colS g) m := fun m => by
    induction m with
    | zero => intro _; rfl
    | succ m ih =>
      intro hm
      show (if flt (maxL _ m) (l[m]?.getD 0) = true then l[m]?.getD 0 else maxL _ m) = (if flt (maxL (colS g) m) (colS g m) = true then colS g m else maxL (colS g) m)
      rw [ih (by omega), hv2 m (by omega)]
  rw [hl, hone n (Nat.le_refl _)] at hmx
  have HMX := Lib.hid hmx; have HB := Lib.hid hb
  clear hs hl hv hv2 hmx hone hb
  go_wp2_with fail
  refine HMX.out.mono ?_
  rintro e w2 ⟨rfl, rfl⟩
  go_wp2
  go_ret
  exact ⟨rfl, HB.out⟩
end Go.Proofs.Ytigacobphgeeaaa
