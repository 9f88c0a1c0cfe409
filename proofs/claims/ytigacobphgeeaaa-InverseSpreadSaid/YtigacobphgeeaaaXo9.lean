/- Package inverse: Errors. -/
import Derived.Test.YtigacobphgeeaaaXn9
set_option linter.unusedVariables false
namespace Lev
def szF (f : Fct) (n i : Nat) : Nat := sizeS (fun s => wS (gS f) i (i + s)) (n - i)
def errF (f : Fct) (n i : Nat) : Nat := arS .mul (spV f) (szF f n i)
def errW (f : Fct) (n : Nat) : Bool := (List.range n).any (fun i => wildS (errF f n i))
def errE (f : Fct) : Int := if stE f ≠ 0 then stE f else if invE f ≠ 0 then invE f else if errW f f.C.toNat = true then 2 else 0
def errL (f : Fct) : List Nat := if errE f = 0 then (List.range f.C.toNat).map (errF f f.C.toNat) else []
theorem ldS_le (b : Nat) (k : Int) : rg (ldS b k) ≤ INF := by
  have h := (rr_spec (mul_pw_nonneg b k)).le
  unfold ldS
  rw [rg_word _ _ (by have := INF_eq; omega)]
  exact h
theorem cn_szF (f : Fct) (n i : Nat) : cn (szF f n i) = szF f n i := cn_num (by have := ldS_le; unfold szF sizeS; have := this (sqrtF (sumT (qS (fun s => wS (gS f) i (i + s)) (kS (fun s => wS (gS f) i (i + s)) (n - i))) (n - i))) (kS (fun s => wS (gS f) i (i + s)) (n - i)); omega)
theorem errW_of {f : Fct} {n : Nat} {l : List Nat} (hl : l.length = n) (h : ∀ i, i < n → cn (l[i]?.getD 0) = errF f n i) : l.any wildS = errW f n := by
  unfold errW
  rw [Bool.eq_iff_iff, List.any_eq_true, List.any_eq_true]
  constructor
  · rintro ⟨x, hx, hw⟩
    obtain ⟨i, hi, rfl⟩ := List.mem_iff_getElem.1 hx
    refine ⟨i, List.mem_range.2 (by omega), ?_⟩
    rw [← h i (by omega), List.getElem?_eq_getElem hi]
    show wildS (cn l[i]) = true
    rw [← wild_cn]; exact hw
  · rintro ⟨i, hi, hw⟩
    rw [List.mem_range] at hi
    rw [← h i hi, ← wild_cn, List.getElem?_eq_getElem (by omega)] at hw
    exact ⟨_, List.getElem_mem _, hw⟩
theorem errW_no {f : Fct} {n : Nat} (h : errW f n = false) : ∀ i, i < n → rg (errF f n i) < INF := fun i hi => by
  unfold errW at h
  rw [List.any_eq_false] at h
  have := h i (List.mem_range.2 hi)
  unfold wildS at this
  rw [decide_eq_true_eq] at this
  omega
theorem errL_of {f : Fct} {n : Nat} {l : List Nat} (hl : l.length = n) (h : ∀ i, i < n → cn (l[i]?.getD 0) = errF f n i) (hw : errW f n = false) : l = (List.range n).map (errF f n) :=
  list_ext (by rw [hl, List.length_map, List.length_range]) (fun p hp => by
    rw [cn_back (h p (by omega)) (errW_no hw p (by omega)), List.getElem?_map, List.getElem?_range (by omega)]; rfl)
end Lev
namespace Go.Proofs.Ytigacobphgeeaaa
open Go.RowKit Go.Shelf Lev

theorem Told.upd {cells : Array Value} {F F' : Nat → Nat} {n q v : Nat} (h : Told cells F n) (hs : cells.size = n) (hq : q < n) (hv : v < 18446744073709551616) (hc : cn v = F' q) (hF : ∀ i, i < n → i ≠ q → F i = F' i) : Told (cells.setIfInBounds q (.float .f64 v)) F' n := fun i hi => by
  by_cases e : i = q
  · subst e; exact ⟨v, Array.getElem?_setIfInBounds_self_of_lt (by omega), hv, hc⟩
  · obtain ⟨u, h1, h2, h3⟩ := h i hi
    exact ⟨u, by rw [Array.getElem?_setIfInBounds_ne (by omega)]; exact h1, h2, by rw [h3]; exact hF i hi e⟩

attribute [local go_sem] run_store_float run_mul_all

set_option maxRecDepth 100000 in
set_option maxHeartbeats 4000000 in
theorem Errors_any (f : Fct) (A : Option Addr) (c : Nat) (w : World) (hx : SlArg w A f.xs c) :
    Calls Try.prog 18 #[facV f.C A f.xs.length c f.R f.T] w fun e w' => (∃ v, e = .returned (.tuple #[v, .int .i64 (errE f)]) ∧ MadeF w.heap.size w' v (errL f)) ∧ Below w.heap.size w w' := by
  have K0 := Lib.hid (((Keep.start w).more hx).alloc #[.int .i64 f.C, .slice A f.xs.length c, .int .i64 f.R, .int .i64 f.T] 24)
  have hsp := fun W h => sspread_any f A c W h
  have hiv := fun W h => invert_any f A c W h
  by_cases h1 : stE f = 0
  · by_cases h2 : invE f = 0
    · have hok : f.ok = true := by
        unfold invE at h2
        cases h : f.ok
        · rw [if_pos h] at h2; exact absurd h2 (by decide)
        · rfl
      have hc := ok_len hok
      obtain ⟨n, hn⟩ : ∃ n : Nat, f.C = (n : Int) := ⟨f.C.toNat, by omega⟩
      have hn6 : 1 ≤ n ∧ n ≤ 6 := by omega
      have hCn : f.C.toNat = n := by omega
      obtain ⟨_, hfw, _⟩ := invE_nw h2 hn
      have hee : errE f = if errW f n = true then 2 else 0 := by unfold errE; rw [if_neg (by rw [h1]; decide), if_neg (by rw [h2]; decide), hCn]
      have hel : errL f = if errE f = 0 then (List.range n).map (errF f n) else [] := by unfold errL; rw [hCn]
      have hsp64 : spV f < 18446744073709551616 := by obtain ⟨i, a, t, v, x, _, _, h, _⟩ := st_open f; exact h
      have HEA := Lib.hid (fun (B : Nat) (b k : Nat → Nat) (M : Nat → Nat → Nat) W (hm : RMat W B n b (fun _ => 0) k M) (hM : ∀ i j, i ≤ j → j < n → cn (M i j) = wS (gS f) i j) => eachSize n (by omega) B n W (szF f n) (fun i hi W' hW => (size_any' (wS (gS f)) n i hi (by omega) B n b (fun _ => 0) k M W' (hm.below hW) (fun j hij hj => cn_back (hM i j hij hj) (hfw i j hij hj)) (fun j hij hj => hfw i j hij hj)).mono (fun e w' ⟨he, hw⟩ => ⟨⟨_, he, ldS_lt _ _, cn_szF f n i⟩, 0, by subst hw; rfl⟩)))
      rw [h1] at hsp
      rw [h2, hCn] at hiv
      unfold facV at hsp hiv ⊢
      rw [hn] at hsp hiv K0 ⊢
      have HSP := Lib.hid hsp; have HIV := Lib.hid hiv; have HEE := Lib.hid hee; have HEL := Lib.hid hel
      obtain ⟨hn1, hn2⟩ := hn6
      generalize hE9 : errE f = E at *
      generalize hL9 : errL f = L at *
      generalize hS9 : spV f = sp at *
      have HS9 := Lib.hid hS9
      clear hx hsp hiv hee hel h1 h2 hc hfw hE9 hL9 hS9
      go_enter Try.func18, Try.ntmps18
      go_wp2_with fail
      refine (HSP.out _ (K0.out.arg (.head _))).mono ?_
      rintro e w1 ⟨rfl, hb⟩
      have K1 := Lib.hid (K0.out.call hb)
      obtain ⟨r0, r1, r2, r3⟩ := (K1.out.box (.head _)).c4
      clear hb
      go_wp2_with fail
      refine (HIV.out _ (K1.out.arg (.head _))).mono ?_
      rintro e w2 ⟨hp, hb⟩
      rcases hp with ⟨h0, _⟩ | ⟨_, Bu, Bw, rfl, hR⟩
      · exact absurd rfl h0
      have K2 := Lib.hid (K1.out.call hb)
      obtain ⟨_, ⟨bw, kw, M, hw1, _, hw3, _⟩⟩ := hR
      have HE1 := Lib.hid (HEA.out Bw bw kw M w2 hw1 hw3)
      have hs2 : w.heap.size ≤ w2.heap.size := K2.out.below.size
      clear hb hw1 hw3 r0 r1 r2 r3
      go_wp2_with fail
      refine HE1.out.mono ?_
      rintro e w3 ⟨⟨rfl, cells, hBk, hcs, hTd⟩, hb⟩
      have HBK := Lib.hid hBk; have HCS := Lib.hid hcs; have HTD := Lib.hid hTd; have HB3 := Lib.hid hb
      clear hBk hcs hTd hb
      go_wp2_with fail
      go_loopw [32] (fun iv wr => ∃ (q : Nat) (cells : Array Value), q ≤ n ∧ iv = .int .i64 (q : Int) ∧ Bk wr w2.heap.size 29 cells ∧ cells.size = n ∧ Told cells (fun i => if i < q then errF f n i else szF f n i) n ∧ Below w2.heap.size w2 wr) (fun iv _ => n - (intOf iv).toNat)
      case atStart => exact ⟨0, cells, Nat.zero_le _, rfl, HBK.out, HCS.out, fun i hi => by
        obtain ⟨v, h1, h2, h3⟩ := HTD.out i hi
        exact ⟨v, h1, h2, by rw [h3]; exact (if_neg (Nat.not_lt_zero _)).symm⟩, HB3.out⟩
      case round =>
        obtain ⟨q, cells, hq, rfl, hB, hsz, hT, hbl⟩ := hrel
        have HB := Lib.hid hB; have HSZ := Lib.hid hsz; have HT := Lib.hid hT; have HBL := Lib.hid hbl
        by_cases hlt : (q : Int) < (n : Int)
        · have hqn : q < n := by omega
          obtain ⟨v, hcv, hv64, hcn⟩ := hT q hqn
          have hcn : cn v = szF f n q := by rw [hcn]; exact if_neg (Nat.lt_irrefl _)
          have c0 : wr.cell? ⟨w2.heap.size, q, none⟩ = some (.float .f64 v) := (hB.cell q).trans hcv
          have f0 := hB.frozen q
          have HCN := Lib.hid hcn
          clear hB hsz hT hbl hcv hcn hv64
          go_wp2
          go_roundw
          case rel => exact ⟨q + 1, _, by omega, by go_num, (HB.out.drewN _).set q _, by rw [Array.size_setIfInBounds]; exact HSZ.out, HT.out.upd HSZ.out hqn (arV_lt _ _ _ _) (by
            show _ = if q < q + 1 then errF f n q else szF f n q
            rw [if_pos (Nat.lt_succ_self _), cn_arV, ← HS9.out]; unfold errF; rw [arS_cn .mul (by simp), HCN.out, arS_cn .mul (by simp) (spV f) (szF f n q), cn_szF]) (fun i hi hne => by
            show (if i < q then errF f n i else szF f n i) = if i < q + 1 then errF f n i else szF f n i
            by_cases h : i < q
            · rw [if_pos h, if_pos (by omega)]
            · rw [if_neg h, if_neg (by omega)]), (HBL.out.drewN _).setCell (Nat.le_refl _) _⟩
          case measure => simp [intOf]; omega
        · have hqe : q = n := by omega
          rw [hqe] at hT
          have hT2 : Told cells (errF f n) n := fun i hi => by
            obtain ⟨v, h1, h2, h3⟩ := hT i hi
            exact ⟨v, h1, h2, by rw [h3]; exact if_pos hi⟩
          obtain ⟨l, hs, hl, hv⟩ := hT2.arg hB (by omega)
          have hcw := fun W (h : Below wr.heap.size wr W) => containsWild (some ⟨w2.heap.size, 0, none⟩) l n W (hs.below h).reads (by omega)
          rw [hl, errW_of hl hv] at hcw
          have HCW := Lib.hid hcw; have HL := Lib.hid hl; have HV := Lib.hid hv; have HS := Lib.hid hs
          clear hB hsz hT hT2 hbl hqe hcw hl hv hs
          cases hw : errW f n
          · rw [hw] at HCW
            have hE0 : E = 0 := by rw [HEE.out, hw]; rfl
            have hL0 : L = l := by rw [HEL.out, if_pos hE0]; exact (errL_of HL.out HV.out hw).symm
            have HE0 := Lib.hid (And.intro hE0 hL0)
            clear hw hE0 hL0
            go_wp2_with fail
            refine (HCW.out _ (Below.refl _ _)).mono ?_
            rintro e w5 ⟨rfl, rfl⟩
            go_wp2
            go_ret2
            refine ⟨⟨_, by rw [HE0.out.1]; rfl, some ⟨w2.heap.size, 0, none⟩, n, by rw [HE0.out.2, HL.out]; rfl, by rw [HE0.out.2]; exact HS.out, fun a ha => by cases ha; exact hs2⟩, Below.chain K2.out.below HBL.out⟩
          · rw [hw] at HCW
            have hE0 : E = 2 := by rw [HEE.out, hw]; rfl
            have hL0 : L = [] := by rw [HEL.out, if_neg (by rw [hE0]; decide)]
            have HE0 := Lib.hid (And.intro hE0 hL0)
            clear hw hE0 hL0
            go_wp2_with fail
            refine (HCW.out _ (Below.refl _ _)).mono ?_
            rintro e w5 ⟨rfl, rfl⟩
            go_wp2
            go_ret2
            exact ⟨⟨_, by rw [HE0.out.1]; rfl, none, 0, by rw [HE0.out.2]; rfl, by rw [HE0.out.2]; exact ⟨FlR.nil _ _ _, Nat.le_refl _, by decide⟩, fun a ha => by cases ha⟩, Below.chain K2.out.below HBL.out⟩
    · have hee : errE f = invE f := by unfold errE; rw [if_neg (by rw [h1]; decide), if_pos h2]
      have hel : errL f = [] := by unfold errL; rw [hee, if_neg h2]
      rw [hee, hel]
      have t0 : (invE f != 0) = true := by rw [bne_iff_ne]; exact h2
      rw [h1] at hsp
      unfold facV at hsp hiv ⊢
      have HSP := Lib.hid hsp; have HIV := Lib.hid hiv; have HE := Lib.hid h2
      clear hx hsp hiv hee hel h1 h2
      generalize invE f = E at *
      go_enter Try.func18, Try.ntmps18
      go_wp2_with fail
      refine (HSP.out _ (K0.out.arg (.head _))).mono ?_
      rintro e w1 ⟨rfl, hb⟩
      have K1 := Lib.hid (K0.out.call hb)
      obtain ⟨r0, r1, r2, r3⟩ := (K1.out.box (.head _)).c4
      clear hb
      go_wp2_with fail
      refine (HIV.out _ (K1.out.arg (.head _))).mono ?_
      rintro e w2 ⟨hp, hb⟩
      rcases hp with ⟨_, rfl⟩ | ⟨h0, _⟩
      · have K2 := Lib.hid (K1.out.call hb)
        clear hb r0 r1 r2 r3
        go_wp2
        go_ret2
        exact ⟨⟨_, rfl, none, 0, rfl, ⟨FlR.nil _ _ _, Nat.le_refl _, by decide⟩, fun a ha => by cases ha⟩, K2.out.below⟩
      · exact absurd h0 HE.out
  · have hee : errE f = stE f := by unfold errE; rw [if_pos h1]
    have hel : errL f = [] := by unfold errL; rw [hee, if_neg h1]
    rw [hee, hel]
    have t0 : (stE f != 0) = true := by rw [bne_iff_ne]; exact h1
    unfold facV at hsp ⊢
    have HSP := Lib.hid hsp
    clear hx hsp hiv hee hel h1
    generalize stE f = E at *
    go_enter Try.func18, Try.ntmps18
    go_wp2_with fail
    refine (HSP.out _ (K0.out.arg (.head _))).mono ?_
    rintro e w1 ⟨rfl, hb⟩
    have K1 := Lib.hid (K0.out.call hb)
    clear hb
    go_wp2
    go_ret2
    exact ⟨⟨_, rfl, none, 0, rfl, ⟨FlR.nil _ _ _, Nat.le_refl _, by decide⟩, fun a ha => by cases ha⟩, K1.out.below⟩
end Go.Proofs.Ytigacobphgeeaaa
