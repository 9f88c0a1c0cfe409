/- Package inverse: Rows, One, Cond. -/
import Derived.Test.YtigacobphgeeaaaXg9
set_option linter.unusedVariables false
namespace Lev
def oneE (f : Fct) : Int := if f.ok = true then 0 else 1
def oneV (f : Fct) : Nat := if f.ok = true then oneS (gS f) f.C.toNat else 0
/-- The condition, as the product tells it. -/
def condC (f : Fct) : Nat := arS .mul (oneS (gS f) f.C.toNat) (oneS (wS (gS f)) f.C.toNat)
def condE (f : Fct) : Int := if invE f ≠ 0 then invE f else if wildS (condC f) = true then 2 else 0
def condV (f : Fct) : Nat := if condE f = 0 then condC f else 0
/-- The inverse's rows, each from its diagonal on. -/
def rowsL (g : Nat → Nat → Nat) (n : Nat) : Nat → List Nat
  | 0 => []
  | m + 1 => rowsL g n m ++ (rowL g m n).drop m
def rowsS (f : Fct) : List Nat := if invE f = 0 then rowsL (wS (gS f)) f.C.toNat f.C.toNat else []
theorem rowsL_len (g : Nat → Nat → Nat) (n : Nat) : ∀ m, (rowsL g n m).length ≤ n * m
  | 0 => Nat.zero_le _
  | m + 1 => by
    show (rowsL g n m ++ _).length ≤ _
    rw [List.length_append, List.length_drop, rowL_len, Nat.mul_succ]
    have := rowsL_len g n m
    omega
theorem invE_nw {f : Fct} {n : Nat} (h : invE f = 0) (hn : f.C = (n : Int)) : f.ok = true ∧ (∀ i j, i ≤ j → j < n → rg (wS (gS f) i j) < INF) ∧ ∀ i, i < n → rg (gS f i i) ≠ 0 := by
  unfold invE at h
  have hC : f.C.toNat = n := by omega
  rw [hC] at h
  split at h
  · exact absurd h (by decide)
  · next h1 =>
    split at h
    · exact absurd h (by decide)
    · next h2 =>
      split at h
      · exact absurd h (by decide)
      · next h3 =>
        refine ⟨by simpa using h1, fun i j hij hj => ?_, fun i hi h0 => h2 (singB_at hi h0)⟩
        rcases Nat.lt_or_ge (rg (wS (gS f) i j)) INF with h4 | h4
        · exact h4
        · exact absurd (wildB_at hij hj (by unfold wildS; exact decide_eq_true h4)) h3
theorem cn_back {x y : Nat} (h : cn x = y) (hy : rg y < INF) : x = y := by
  by_cases h1 : INF < rg x
  · rw [cn_nan h1] at h
    rw [← h] at hy
    exact absurd hy (by decide)
  · rw [cn_num h1] at h; exact h
end Lev
namespace Go.Proofs.Ytigacobphgeeaaa
open Go.RowKit Go.Shelf Lev

theorem gS_fin {f : Fct} (h : f.ok = true) (i j : Nat) : rg (gS f i j) < INF := by
  have := small_fin (getS_small h (i : Int) (j : Int))
  unfold fin at this; exact this
theorem rowsL_lt {g : Nat → Nat → Nat} {n : Nat} (h : ∀ i j, i ≤ j → j < n → rg (wS g i j) < INF) : ∀ m, ∀ y ∈ rowsL (wS g) n m, y < 18446744073709551616
  | 0, y, hy => absurd hy List.not_mem_nil
  | m + 1, y, hy => by
    rcases List.mem_append.1 hy with hy | hy
    · exact rowsL_lt h m y hy
    · have h1 := List.mem_of_mem_drop hy
      unfold rowL at h1
      rw [List.mem_map] at h1
      obtain ⟨j, hj, rfl⟩ := h1
      exact wS_lt g m j
theorem rowL_congr {M g : Nat → Nat → Nat} {n i : Nat} (h : ∀ j, i ≤ j → j < n → M i j = g i j) : (rowL M i n).drop i = (rowL g i n).drop i := by
  refine list_ext (by rw [List.length_drop, List.length_drop, rowL_len, rowL_len]) (fun p hp => ?_)
  rw [List.length_drop, rowL_len] at hp
  rw [List.getElem?_drop, List.getElem?_drop, rowL_get _ (by omega), rowL_get _ (by omega)]
  exact h _ (by omega) (by omega)

set_option maxRecDepth 100000 in
set_option maxHeartbeats 2000000 in
theorem One_any (f : Fct) (A : Option Addr) (c : Nat) (w : World) (hx : SlArg w A f.xs c) :
    Calls Try.prog 12 #[facV f.C A f.xs.length c f.R f.T] w fun e w' => e = .returned (.tuple #[.float .f64 (oneV f), .int .i64 (oneE f)]) ∧ Below w.heap.size w w' := by
  have hck := fun W h => check_any f.C A f.xs c f.R f.T W h
  have K0 := Lib.hid (((Keep.start w).more hx).alloc #[.int .i64 f.C, .slice A f.xs.length c, .int .i64 f.R, .int .i64 f.T] 24)
  cases hok : f.ok
  · rw [show checkS f.C f.xs f.R f.T = false from hok] at hck
    have e1 : oneV f = 0 := by unfold oneV; rw [hok]; rfl
    have e2 : oneE f = 1 := by unfold oneE; rw [hok]; rfl
    rw [e1, e2]
    unfold facV at hck ⊢
    have HCK := Lib.hid hck
    clear hx hck e1 e2
    go_enter Try.func12, Try.ntmps12
    go_wp2_with fail
    refine (HCK.out _ (K0.out.arg (.head _))).mono ?_
    rintro e w1 ⟨rfl, hb⟩
    have K1 := Lib.hid (K0.out.call hb)
    clear hb
    go_wp2
    go_ret2
    exact ⟨rfl, K1.out.below⟩
  · rw [show checkS f.C f.xs f.R f.T = true from hok] at hck
    have hc := ok_len hok
    obtain ⟨n, hn⟩ : ∃ n : Nat, f.C = (n : Int) := ⟨f.C.toNat, by omega⟩
    have e1 : oneV f = oneS (gS f) n := by unfold oneV; rw [if_pos hok, show f.C.toNat = n from by omega]
    have e2 : oneE f = 0 := by unfold oneE; rw [if_pos hok]
    have hsq := fun W h => square_any f A c W h hok n hn
    have HONE := Lib.hid (fun W B b o k h => one_any (gS f) n (by omega) (by omega) B b o k (gS f) n W ⟨Nat.le_refl _, by omega⟩ h (fun _ _ _ _ => rfl) (fun i j _ _ => gS_fin hok i j))
    rw [e1, e2]
    unfold facV at hck hsq ⊢
    rw [hn] at hck hsq K0 ⊢
    have HCK := Lib.hid hck; have HSQ := Lib.hid hsq
    clear hx hck hsq e1 e2 hc
    go_enter Try.func12, Try.ntmps12
    go_wp2_with fail
    refine (HCK.out _ (K0.out.arg (.head _))).mono ?_
    rintro e w1 ⟨rfl, hb⟩
    have K1 := Lib.hid (K0.out.call hb)
    obtain ⟨r0, r1, r2, r3⟩ := (K1.out.box (.head _)).c4
    clear hb
    go_wp2_with fail
    refine (HSQ.out _ (K1.out.arg (.head _))).mono ?_
    rintro e w2 ⟨⟨B, rfl, b, ⟨o, k, hm⟩, _, _⟩, hb⟩
    have K2 := Lib.hid (K1.out.call hb)
    have H1 := Lib.hid (HONE.out w2 B b o k hm)
    clear hb hm r0 r1 r2 r3
    go_wp2_with fail
    refine H1.out.mono ?_
    rintro e w3 ⟨rfl, hb⟩
    have K3 := Lib.hid (K2.out.call hb)
    clear hb
    go_wp2
    go_ret2
    exact ⟨rfl, K3.out.below⟩

attribute [local go_sem] run_store_float run_mul_all

set_option maxRecDepth 100000 in
set_option maxHeartbeats 2000000 in
theorem Cond_any (f : Fct) (A : Option Addr) (c : Nat) (w : World) (hx : SlArg w A f.xs c) :
    Calls Try.prog 14 #[facV f.C A f.xs.length c f.R f.T] w fun e w' => e = .returned (.tuple #[.float .f64 (condV f), .int .i64 (condE f)]) ∧ Below w.heap.size w w' := by
  have K0 := Lib.hid (((Keep.start w).more hx).alloc #[.int .i64 f.C, .slice A f.xs.length c, .int .i64 f.R, .int .i64 f.T] 24)
  have hiv := fun W h => invert_any f A c W h
  by_cases hE : invE f = 0
  · have hok : f.ok = true := by
      unfold invE at hE
      cases h : f.ok
      · rw [if_pos h] at hE; exact absurd hE (by decide)
      · rfl
    have hc := ok_len hok
    obtain ⟨n, hn⟩ : ∃ n : Nat, f.C = (n : Int) := ⟨f.C.toNat, by omega⟩
    have hCn : f.C.toNat = n := by omega
    obtain ⟨_, hfw, _⟩ := invE_nw hE hn
    have HONE := Lib.hid (fun W B b o k h => one_any (gS f) n (by omega) (by omega) B b o k (gS f) n W ⟨Nat.le_refl _, by omega⟩ h (fun _ _ _ _ => rfl) (fun i j _ _ => gS_fin hok i j))
    have HONW := Lib.hid (fun W B b o k (M : Nat → Nat → Nat) h (hM : ∀ i j, i ≤ j → j < n → cn (M i j) = wS (gS f) i j) => one_any (wS (gS f)) n (by omega) (by omega) B b o k M n W ⟨Nat.le_refl _, by omega⟩ h (fun i j hij hj => cn_back (hM i j hij hj) (hfw i j hij hj)) hfw)
    have hcc : condC f = arS .mul (oneS (gS f) n) (oneS (wS (gS f)) n) := by unfold condC; rw [hCn]
    have hce : condE f = if wildS (condC f) = true then 2 else 0 := by unfold condE; rw [if_neg (by rw [hE]; decide)]
    have hcv : condV f = if condE f = 0 then condC f else 0 := rfl
    rw [hE, hCn] at hiv
    unfold facV at hiv ⊢
    rw [hn] at hiv K0 ⊢
    have HIV := Lib.hid hiv; have HCC := Lib.hid hcc; have HCE := Lib.hid hce; have HCV := Lib.hid hcv
    generalize condE f = E at *
    generalize condV f = V at *
    generalize condC f = C at *
    generalize oneS (gS f) n = p at *
    generalize oneS (wS (gS f)) n = q at *
    clear hx hiv hcc hce hcv hE hc hfw
    go_enter Try.func14, Try.ntmps14
    go_wp2_with fail
    refine (HIV.out _ (K0.out.arg (.head _))).mono ?_
    rintro e w1 ⟨hp, hb⟩
    rcases hp with ⟨h0, _⟩ | ⟨_, Bu, Bw, rfl, hR⟩
    · exact absurd rfl h0
    have K1 := Lib.hid (K0.out.call hb)
    obtain ⟨⟨bu, ou, ku, hu1, _⟩, ⟨bw, kw, M, hw1, _, hw3, _⟩⟩ := hR
    have H1 := Lib.hid (HONE.out w1 Bu bu ou ku hu1)
    have HW1 := Lib.hid hw1; have HW3 := Lib.hid hw3
    clear hb hu1 hw1 hw3
    go_wp2_with fail
    refine H1.out.mono ?_
    rintro e w2 ⟨rfl, hb⟩
    have K2 := Lib.hid (K1.out.call hb)
    have H2 := Lib.hid (HONW.out w2 Bw bw _ kw M (HW1.out.below hb) HW3.out)
    clear hb
    go_wp2_with fail
    refine H2.out.mono ?_
    rintro e w3 ⟨rfl, hb⟩
    have K3 := Lib.hid (K2.out.call hb)
    clear hb
    have hcn := cn_arV .mul p q w3
    rw [← HCC.out] at hcn
    have hv64 := arV_lt .mul p q w3
    have HWL := Lib.hid (fun W => wild_any (arV .mul p q w3) hv64 W)
    have hwc : wildS (arV .mul p q w3) = wildS C := by rw [wild_cn, hcn]
    rw [hwc] at HWL
    have HCN := Lib.hid hcn
    have hKN := Lib.hid (K3.out.drewN (arN .mul p q)).below
    clear hcn hv64 hwc
    cases hwd : wildS C
    · rw [hwd] at HWL
      have hE0 : E = 0 := by rw [HCE.out, hwd]; rfl
      have hV0 : V = arV .mul p q w3 := by
        rw [HCV.out, if_pos hE0]
        refine (cn_back HCN.out ?_).symm
        unfold wildS at hwd
        rw [decide_eq_false_iff_not] at hwd
        omega
      have HE0 := Lib.hid (And.intro hE0 hV0)
      clear hwd hE0 hV0
      go_wp2_with (go_at_call 41; refine (HWL.out _).mono ?_; rintro e w' ⟨rfl, rfl⟩)
      go_ret2
      exact ⟨by rw [HE0.out.1, HE0.out.2]; rfl, hKN.out⟩
    · rw [hwd] at HWL
      have hE0 : E = 2 := by rw [HCE.out, hwd]; rfl
      have hV0 : V = 0 := by rw [HCV.out, if_neg (by rw [hE0]; decide)]
      have HE0 := Lib.hid (And.intro hE0 hV0)
      clear hwd hE0 hV0
      go_wp2_with (go_at_call 41; refine (HWL.out _).mono ?_; rintro e w' ⟨rfl, rfl⟩)
      go_ret2
      exact ⟨by rw [HE0.out.1, HE0.out.2]; rfl, hKN.out⟩
  · have hce : condE f = invE f := by unfold condE; rw [if_pos hE]
    have hcv : condV f = 0 := by unfold condV; rw [hce, if_neg hE]
    rw [hce, hcv]
    have t0 : (invE f != 0) = true := by rw [bne_iff_ne]; exact hE
    unfold facV at hiv ⊢
    have HIV := Lib.hid hiv; have HE := Lib.hid hE
    clear hx hiv hce hcv hE
    generalize invE f = E at *
    go_enter Try.func14, Try.ntmps14
    go_wp2_with fail
    refine (HIV.out _ (K0.out.arg (.head _))).mono ?_
    rintro e w1 ⟨hp, hb⟩
    rcases hp with ⟨_, rfl⟩ | ⟨h0, _⟩
    · have K1 := Lib.hid (K0.out.call hb)
      clear hb
      go_wp2
      go_ret2
      exact ⟨rfl, K1.out.below⟩
    · exact absurd h0 HE.out

set_option maxRecDepth 100000 in
set_option maxHeartbeats 2000000 in
theorem Rows_any (f : Fct) (A : Option Addr) (c : Nat) (w : World) (hx : SlArg w A f.xs c) :
    Calls Try.prog 10 #[facV f.C A f.xs.length c f.R f.T] w fun e w' => (∃ v, e = .returned (.tuple #[v, .int .i64 (invE f)]) ∧ MadeF w.heap.size w' v (rowsS f)) ∧ Below w.heap.size w w' := by
  have K0 := Lib.hid (((Keep.start w).more hx).alloc #[.int .i64 f.C, .slice A f.xs.length c, .int .i64 f.R, .int .i64 f.T] 24)
  have hiv := fun W h => invert_any f A c W h
  by_cases hE : invE f = 0
  · have hok : f.ok = true := by
      unfold invE at hE
      cases h : f.ok
      · rw [if_pos h] at hE; exact absurd hE (by decide)
      · rfl
    have hc := ok_len hok
    obtain ⟨n, hn⟩ : ∃ n : Nat, f.C = (n : Int) := ⟨f.C.toNat, by omega⟩
    have hn6 : 1 ≤ n ∧ n ≤ 6 := by omega
    have hCn : f.C.toNat = n := by omega
    obtain ⟨_, hfw, _⟩ := invE_nw hE hn
    have hrs : rowsS f = rowsL (wS (gS f)) n n := by unfold rowsS; rw [if_pos hE, hCn]
    obtain ⟨i0, hi, hz0, hz1, hz2⟩ := info_parts info_f64'
    rw [hE, hCn] at hiv
    rw [hE, hrs]
    unfold facV at hiv ⊢
    rw [hn] at hiv K0 ⊢
    have HIV := Lib.hid hiv; have HFW := Lib.hid hfw
    have HI := Lib.hid hi; have HZ0 := Lib.hid hz0; have HZ1 := Lib.hid hz1; have HZ2 := Lib.hid hz2
    obtain ⟨hn1, hn2⟩ := hn6
    clear hx hiv hrs hE hc hfw hi hz0 hz1 hz2
    go_enter Try.func10, Try.ntmps10
    go_wp2_with fail
    refine (HIV.out _ (K0.out.arg (.head _))).mono ?_
    rintro e w1 ⟨hp, hb⟩
    rcases hp with ⟨h0, _⟩ | ⟨_, Bu, Bw, rfl, hR⟩
    · exact absurd rfl h0
    have K1 := Lib.hid (K0.out.call hb)
    obtain ⟨_, ⟨bw, kw, M, hw1, _, hw3, _⟩⟩ := hR
    have HW1 := Lib.hid hw1; have HW3 := Lib.hid hw3
    have hs1 : w.heap.size ≤ w1.heap.size := (K0.out.call hb).below.size
    clear hb hw1 hw3
    go_wp2_with fail
    go_loopw [7, 18] (fun ov iv wr => ∃ q : Nat, q ≤ n ∧ iv = .int .i64 (q : Int) ∧ wr.ownsRow w1.heap.size 29 1 ov (rowsL (wS (gS f)) n q).length ((rowsL (wS (gS f)) n q).map (Value.float .f64)) ∧ Below w1.heap.size w1 wr) (fun _ iv _ => n - (intOf iv).toNat)
    case atStart => exact ⟨0, Nat.zero_le _, rfl, ⟨rfl, .inl ⟨rfl, rfl⟩⟩, Below.refl _ _⟩
    case round =>
      obtain ⟨q, hq, rfl, hown, hbl⟩ := hrel
      have HO := Lib.hid hown; have HBL := Lib.hid hbl
      by_cases hlt : (q : Int) < (n : Int)
      · have hqn : q < n := by omega
        have hW := HW1.out.below hbl
        have a0 := hW.out q hqn
        have hcap := hW.cap q hqn
        obtain ⟨hk1, hk2⟩ := hcap
        have hne : ¬ kw q = q := by omega
        have HW := Lib.hid hW
        have hlen := rowsL_len (wS (gS f)) n q
        have hlq : n * q ≤ 36 := by
          have := Nat.mul_le_mul hn2 (show q ≤ 6 by omega)
          omega
        have hv : ∀ j, q ≤ j → j < n → M q j = wS (gS f) q j := fun j hj hjn => cn_back (HW3.out q j hj hjn) (HFW.out q j hj hjn)
        have hdl : ((rowL (wS (gS f)) q n).drop q).length = n - q := by rw [List.length_drop, rowL_len]
        have hcr : ∀ a u, (((rowL (wS (gS f)) q n).drop q).map (Value.float .f64))[a]? = some u → wr.cell? ((⟨bw q, q, none⟩ : Addr).add a) = some u := fun a u hu => by
          rw [List.getElem?_map] at hu
          cases h2 : ((rowL (wS (gS f)) q n).drop q)[a]? with
          | none => rw [h2] at hu; cases hu
          | some y =>
            rw [h2] at hu; cases hu
            have ha := (List.getElem?_eq_some_iff.1 h2).1
            rw [hdl] at ha
            rw [addr_add]
            have h3 := hW.row q (q + a) hqn (by omega)
            rw [Nat.zero_add, hv (q + a) (by omega) (by omega)] at h3
            rw [h3]
            rw [List.getElem?_drop] at h2
            have h4 := rowL_get (wS (gS f)) (i := q) (n := n) (j := q + a) (by omega)
            rw [h2] at h4
            have h5 : y = wS (gS f) q (q + a) := h4
            rw [h5]
        have h1c : ∀ u ∈ ((rowL (wS (gS f)) q n).drop q).map (Value.float .f64), u.oneCell' = true := fun u hu => by
          rw [List.mem_map] at hu; obtain ⟨y, _, rfl⟩ := hu; rfl
        have hmm : (rowsL (wS (gS f)) n q).map (Value.float .f64) ++ ((rowL (wS (gS f)) q n).drop q).map (Value.float .f64) = (rowsL (wS (gS f)) n (q + 1)).map (Value.float .f64) := by rw [← List.map_append]; rfl
        have hll : (rowsL (wS (gS f)) n q).length + (n - q) = (rowsL (wS (gS f)) n (q + 1)).length := by
          show _ = (rowsL (wS (gS f)) n q ++ _).length
          rw [List.length_append, hdl]
        have HCR := Lib.hid hcr; have H1C := Lib.hid h1c; have HMM := Lib.hid hmm; have HLL := Lib.hid hll
        have HDL := Lib.hid hdl
        have hsz := hbl.size
        generalize (rowsL (wS (gS f)) n q).length = rl at *
        clear hown hbl hW hv hcr h1c hmm hll hdl
        go_wp2_with (at_builtin; refine wpList_append_own _ rfl _ _ 22 rfl w1.heap.size 29 i0 (.float .f64 0) 1 8 Try.underlying22 HI.out HZ0.out HZ1.out HZ2.out rfl (by decide) _ _ _ rfl HO.out ⟨bw q, q, none⟩ (n - q) (kw q - q) (((rowL (wS (gS f)) q n).drop q).map (Value.float .f64)) rfl (by rw [List.length_map, HDL.out, Nat.mul_one]) HCR.out H1C.out (by unfold maxLen; omega) (by omega) (by omega) ?_; intro v' w2 hown' hgrow _)
        go_roundw
        case rel => exact ⟨q + 1, by omega, by go_num, by rw [← HMM.out, ← HLL.out]; exact hown', HBL.out.grown hgrow HBL.out.size (own_from HO.out)⟩
        case measure => simp [intOf]; omega
      · obtain rfl : q = n := by omega
        have hmd := made_of_own hown (rowsL_lt HFW.out q)
        have HMD := Lib.hid hmd
        clear hown hbl hmd
        go_wp2
        go_ret2
        obtain ⟨A2, c2, h1, h2, h3⟩ := HMD.out
        exact ⟨⟨_, rfl, A2, c2, h1, h2, fun a ha => by have := h3 a ha; omega⟩, Below.chain K1.out.below HBL.out⟩
  · have hrs : rowsS f = [] := by unfold rowsS; rw [if_neg hE]
    rw [hrs]
    unfold facV at hiv ⊢
    have HIV := Lib.hid hiv; have HE := Lib.hid hE
    clear hx hiv hrs hE
    generalize invE f = E at *
    go_enter Try.func10, Try.ntmps10
    go_wp2_with fail
    refine (HIV.out _ (K0.out.arg (.head _))).mono ?_
    rintro e w1 ⟨hp, hb⟩
    rcases hp with ⟨_, rfl⟩ | ⟨h0, _⟩
    · have K1 := Lib.hid (K0.out.call hb)
      clear hb
      go_wp2_with fail
      go_loopw [7, 18] (fun ov iv wr => ov = .slice none 0 0 ∧ iv = .int .i64 0 ∧ wr = w1) (fun _ iv _ => 0)
      case atStart => exact ⟨rfl, rfl, rfl⟩
      case round =>
        obtain ⟨rfl, rfl, rfl⟩ := hrel
        go_wp2
        go_ret2
        exact ⟨⟨_, rfl, none, 0, rfl, ⟨FlR.nil _ _ _, Nat.le_refl _, by decide⟩, fun a ha => by cases ha⟩, K1.out.below⟩
    · exact absurd h0 HE.out
end Go.Proofs.Ytigacobphgeeaaa
