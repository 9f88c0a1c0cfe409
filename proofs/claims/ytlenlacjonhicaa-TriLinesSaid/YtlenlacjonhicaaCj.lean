/- The document's answer: a factor with a row set. -/
import Derived.Test.YtlenlacjonhicaaCi
namespace Lev
/-- Entry p behind the setting of row i up to column j. -/
def setM (N i : Nat) (l xs : List Nat) (j p : Nat) : Nat := if st N i ≤ p ∧ p < st N i + (j - i) then l[i + (p - st N i)]?.getD 0 else xs[p]?.getD 0
theorem setM_start (N i : Nat) (l xs : List Nat) (p : Nat) : setM N i l xs i p = xs[p]?.getD 0 := by unfold setM; rw [if_neg (by omega)]
theorem setM_end (N i : Nat) (l xs : List Nat) (p : Nat) : setM N i l xs N p = setP N i l xs p := by unfold setM setP; rw [st_succ]
theorem setM_step (N i : Nat) (l xs : List Nat) (j p : Nat) (h : i ≤ j) : setM N i l xs (j + 1) p = if p = st N i + (j - i) then l[j]?.getD 0 else setM N i l xs j p := by
  unfold setM
  by_cases hp : p = st N i + (j - i)
  · rw [if_pos (by omega), if_pos hp]; congr 2; omega
  · rw [if_neg hp]
    by_cases h2 : st N i ≤ p ∧ p < st N i + (j - i)
    · rw [if_pos h2, if_pos (by omega)]
    · rw [if_neg h2, if_neg (by omega)]
end Lev
namespace Go.Proofs.Ytlenlacjonhicaa
open Go.RowKit Go.Shelf Lev

attribute [local go_sem] run_store_float

set_option maxRecDepth 100000 in
set_option maxHeartbeats 2000000 in
theorem rset_any (f : Fct) (A : Option Addr) (c : Nat) (i : Int) (l : List Nat) (L : Option Addr) (cl : Nat) (w : World) (hx : SlArg w A f.xs c) (hl : SlArg w L l cl) :
    Calls Try.prog 20 #[facV f.C A f.xs.length c f.R f.T, .int .i64 i, .slice L l.length cl] w fun e w' => (∃ v, e = .returned (.tuple #[v, .bool (setB f i l)]) ∧ FacB w.heap.size none w' v (setF f i l)) ∧ Below w.heap.size w w' := by
  have HX := Lib.hid hx; have HL := Lib.hid hl
  have HCK := Lib.hid (fun W hW => rcheck_any f.C A f.xs c f.R f.T W hW)
  have hl63 : l.length ≤ 9223372036854775807 := Nat.le_trans hl.cap hl.room
  unfold facV at HCK ⊢
  by_cases hset : hasS f i = true ∧ (l.length : Int) = f.C + 1
  · obtain ⟨hh, hll⟩ := hset
    obtain ⟨hok, h1, h2⟩ := hasS_iff.1 hh
    have hC6 := (ok_len hok).2.1
    have hC1 := (ok_len hok).1
    have hlen := (ok_len hok).2.2.1
    rw [show checkS f.C f.xs f.R f.T = true from hok] at HCK
    obtain ⟨N, hN⟩ : ∃ N : Nat, (N : Int) = f.C + 1 := ⟨(f.C + 1).toNat, by omega⟩
    have hNe : (f.C + 1).toNat = N := by omega
    obtain ⟨q, hq⟩ : ∃ q : Nat, i = (q : Int) := ⟨i.toNat, by omega⟩
    subst hq
    have hsb : setB f (q : Int) l = checkS f.C (setL N q l f.xs) f.R f.T := by unfold setB; rw [hh, decide_eq_true hll, hNe, Int.toNat_natCast]; rfl
    have hsf : setF f (q : Int) l = if checkS f.C (setL N q l f.xs) f.R f.T = true then ⟨f.C, setL N q l f.xs, f.R, f.T⟩ else Fct.zero := by unfold setF; rw [hsb, hNe, Int.toNat_natCast]
    rw [hsb]
    have HSF := Lib.hid hsf
    rw [hNe] at hlen
    have hpos : 0 < f.xs.length := by
      have := st_all N
      have h3 : 2 ≤ N := by omega
      have := Nat.mul_le_mul h3 h3
      omega
    obtain ⟨b, off, hA, hbb, hcell⟩ := hx.reads.2 hpos
    subst hA
    obtain ⟨bl, offl, hLA, hbl, hcl⟩ := hl.reads.2 (by omega)
    subst hLA
    have hlN : l.length = N := by omega
    have hln : ((l.length : Int) != f.C + 1) = false := by rw [bne_eq_false_iff_eq]; exact hll
    have hl28 : f.xs.length ≤ 28 := (ok_len hok).2.2.2.2.2.2.2.1
    have e1 : decide ((q : Int) < 0) = false := decide_eq_false (by omega)
    have e2 : decide (f.C < (q : Int)) = false := decide_eq_false (by omega)
    obtain ⟨i0, hi, hz0, hz1, hz2⟩ := info_parts info_f64'
    have HOK := Lib.hid hok; have HLEN := Lib.hid hlen; have HN := Lib.hid hN; have HCL := Lib.hid hcl; have HLL := Lib.hid hlN; have HC := Lib.hid hcell
    clear hh hok hx hl hlen hNe hcell hN hcl hsb hsf hll hlN
    go_enter Try.func20, Try.ntmps20
    go_wp2_with fail
    refine named ?_
    intro W hW
    obtain ⟨b0, b1, hbW, hsz⟩ := boxes2 hW
    clear hW
    refine (HCK.out W (HX.out.below hbW)).mono ?_
    rintro e w1 ⟨rfl, hb1⟩
    have hB1 := hbW.trans (hb1.mono (by omega))
    have c0 := b0.below hb1 (by omega)
    have c1 := b1.below hb1 (by omega)
    have hsz1 := hb1.size
    obtain ⟨r0, r1, r2, r3⟩ := c0.c4
    have hq0 : w.heap.size < w1.heap.size := by omega
    have hq1 : w.heap.size < w1.heap.size + 1 := by omega
    have hown := World.ownsRow_made (e := 40) (size := 1) (base := w1.heap.size + 1) (w1.alloc (.cells #[.int .i64 f.C, .slice (some ⟨b, off, none⟩) f.xs.length c, .int .i64 f.R, .int .i64 f.T] 24)) #[] 0 (by simp) (by decide) rfl
    have hcr : ∀ j u, (f.xs.map (Value.float .f64))[j]? = some u → ((w1.alloc (.cells #[.int .i64 f.C, .slice (some ⟨b, off, none⟩) f.xs.length c, .int .i64 f.R, .int .i64 f.T] 24)).alloc (.cells #[] 40)).cell? ((⟨b, off, none⟩ : Addr).add j) = some u := fun j u hu => by
      rw [List.getElem?_map] at hu
      cases h2 : f.xs[j]? with
      | none => rw [h2] at hu; cases hu
      | some y =>
        rw [h2] at hu; cases hu
        have hj := (List.getElem?_eq_some_iff.1 h2).1
        have e2 : (⟨b, off, none⟩ : Addr).add j = ⟨b, off + j, none⟩ := by
          unfold Addr.add; split
          · subst_vars; rfl
          · rfl
        have h3 := HC.out j hj
        rw [h2] at h3
        rw [e2, World.cell?_alloc_lt _ _ _ (by simp; omega), World.cell?_alloc_lt _ _ _ (by simp; omega)]; exact (hB1.cell (p := ⟨b, off + j, none⟩) hbb).trans h3
    have h1c : ∀ u ∈ f.xs.map (Value.float .f64), u.oneCell' = true := fun u hu => by
      rw [List.mem_map] at hu; obtain ⟨y, _, rfl⟩ := hu; rfl
    have HCR := Lib.hid hcr; have H1C := Lib.hid h1c
    rw [World.size_alloc] at hown
    obtain ⟨v0, v1, v2, v3⟩ := (Bk.new w1 24 #[.int .i64 f.C, .slice (some ⟨b, off, none⟩) f.xs.length c, .int .i64 f.R, .int .i64 f.T]).f4
    have hG := Bk.new w1 24 #[.int .i64 f.C, .slice (some ⟨b, off, none⟩) f.xs.length c, .int .i64 f.R, .int .i64 f.T]
    clear hb1 hbW b0 b1 hcr h1c
    have hlt0 := fun k h => (hown.lt k h).1
    have hsz2 : w1.heap.size + 1 ≤ ((w1.alloc (.cells #[.int .i64 f.C, .slice (some ⟨b, off, none⟩) f.xs.length c, .int .i64 f.R, .int .i64 f.T] 24)).alloc (.cells #[] 40)).heap.size := by simp
    have hsz3 : w.heap.size ≤ ((w1.alloc (.cells #[.int .i64 f.C, .slice (some ⟨b, off, none⟩) f.xs.length c, .int .i64 f.R, .int .i64 f.T] 24)).alloc (.cells #[] 40)).heap.size := by simp; omega
    have hB9 := (hB1.alloc (by omega) (.cells #[.int .i64 f.C, .slice (some ⟨b, off, none⟩) f.xs.length c, .int .i64 f.R, .int .i64 f.T] 24)).alloc (by simp; omega) (.cells #[] 40)
    have hG9 := hG.alloc (.cells #[] 40)
    have c09 := (c0.alloc (.cells #[.int .i64 f.C, .slice (some ⟨b, off, none⟩) f.xs.length c, .int .i64 f.R, .int .i64 f.T] 24)).alloc (.cells #[] 40)
    have c19 := (c1.alloc (.cells #[.int .i64 f.C, .slice (some ⟨b, off, none⟩) f.xs.length c, .int .i64 f.R, .int .i64 f.T] 24)).alloc (.cells #[] 40)
    go_wp2_with (at_builtin; go_loud (refine wpList_append_own _ rfl _ _ 22 rfl (w1.heap.size + 1) 40 i0 (.float .f64 0) 1 8 Try.underlying22 hi hz0 hz1 hz2 rfl (by decide) _ 0 _ rfl hown ⟨b, off, none⟩ f.xs.length c (f.xs.map (Value.float .f64)) rfl (by rw [List.length_map, Nat.mul_one]) HCR.out H1C.out (by unfold maxLen; omega) (by omega) hsz2 ?_); intro v' w2 hown' hgrow _; go_loud (rw [Nat.zero_add, List.nil_append] at hown'); go_loud (obtain ⟨⟨g, cap, cur, rfl, hgb, hg, hcap, hcm', hcs, hct, hgl⟩, hbk, hbl2⟩ := app_new hpos hown' hgrow hlt0); have z1 := hbk _ _ _ (Nat.lt_succ_self _) hG9; have z2 := hbk _ _ _ hq1 c09; go_loud (have z3 := hbk _ _ _ (by omega) c19); go_loud (have hB2 := hbl2 _ _ (by omega) hsz3 hB9); have HGB := Lib.hid hg; have HCT := Lib.hid hct; have HCS := Lib.hid hcs; clear hg hct hcs hown' hgrow hbk hbl2 r0 r1 r2 r3 v0 v1 v2 v3 hown hlt0 hsz2 hsz3 hB9 hG9 c09 c19 c0 c1 hB1 hG; obtain ⟨k0, k1, k2, k3⟩ := z1.c4; obtain ⟨f0, f1, f2, f3⟩ := z1.f4)
    obtain ⟨G, hG⟩ : ∃ G, G = w1.heap.size := ⟨_, rfl⟩
    have hGs : w.heap.size + 2 ≤ G := by omega
    have hgG : G + 1 ≤ g := by omega
    rw [← hG]
    rw [← hG] at z1
    have hf0 := (z1.set4 (.slice (some ⟨g, 0, none⟩) f.xs.length cap)).2.1
    have hf1 := z2.other (p := ⟨G, 1, none⟩) (by show w.heap.size ≠ G; omega) (.slice (some ⟨g, 0, none⟩) f.xs.length cap)
    have hf2 := z3.other (p := ⟨G, 1, none⟩) (by show w.heap.size + 1 ≠ G; omega) (.slice (some ⟨g, 0, none⟩) f.xs.length cap)
    have hf3 := Bk.other (p := ⟨G, 1, none⟩) (show Bk w2 g 40 cur from HGB.out) (by show g ≠ G; omega) (.slice (some ⟨g, 0, none⟩) f.xs.length cap)
    have hf4 := hB2.setCell (p := ⟨G, 1, none⟩) (by show w.heap.size ≤ G; omega) (.slice (some ⟨g, 0, none⟩) f.xs.length cap)
    have hsz4 : G + 1 < (w2.setCell ⟨G, 1, none⟩ (.slice (some ⟨g, 0, none⟩) f.xs.length cap)).heap.size := by simp [World.setCell]; omega
    have HG := Lib.hid hG
    clear hG z1 z2 z3 hB2 k0 k1 k2 k3 f0 f1 f2 f3 hsz1 hq0 hq1 hgl hgb
    have hcs0 : cur.size = cap := HCS.out
    have hcp : ∀ p, p < f.xs.length → cur[p]? = some (.float .f64 (setM N q l f.xs q p)) := fun p hp => by
      have h5 := congrArg (·[p]?) HCT.out
      simp only [List.getElem?_map] at h5
      rw [List.getElem?_take_of_lt hp, List.getElem?_eq_getElem hp] at h5
      rw [setM_start, List.getElem?_eq_getElem hp]
      simpa using h5
    have HCP := Lib.hid hcp; have HCS0 := Lib.hid hcs0
    clear hcp hcs0
    go_loopw [9] (fun i wr => ∃ (j : Nat) (cr : Array Value), i = .int .i64 (j : Int) ∧ q ≤ j ∧ j ≤ N ∧ Bk wr w.heap.size 24 #[.int .i64 f.C, .slice (some ⟨b, off, none⟩) f.xs.length c, .int .i64 f.R, .int .i64 f.T] ∧
        Bk wr (w.heap.size + 1) 24 #[.int .i64 0, .slice none 0 0, .int .i64 0, .int .i64 0] ∧ Bk wr G 24 #[.int .i64 f.C, .slice (some ⟨g, 0, none⟩) f.xs.length cap, .int .i64 f.R, .int .i64 f.T] ∧
        Bk wr g 40 cr ∧ cr.size = cap ∧ (∀ p, p < f.xs.length → cr[p]? = some (.float .f64 (setM N q l f.xs j p))) ∧ Below w.heap.size w wr) (fun i _ => (f.C + 1 - intOf i).toNat)
    case atStart => exact ⟨q, cur, rfl, Nat.le_refl _, by have := HN.out; omega, hf1, hf2, hf0, hf3, HCS0.out, HCP.out, hf4⟩
    case round =>
      obtain ⟨j, cr, rfl, hqj, hjN, d0, d1, dG, dg, hcrs, hcrp, hBr⟩ := hrel
      clear hf0 hf1 hf2 hf3 hf4 hsz4
      have HCR2 := Lib.hid hcrs; have HCP2 := Lib.hid hcrp
      clear hcrs hcrp
      obtain ⟨r0, r1, r2, r3⟩ := d0.c4
      obtain ⟨s0, s1, s2, s3⟩ := dG.c4
      by_cases hlt : (j : Int) ≤ f.C
      · have hatB : atB f.C (q : Int) (j : Int) = true := atB_iff.2 (by omega)
        have hat := fun w => rat_any f.C (q : Int) (j : Int) w
        have hatI : atI f.C (q : Int) (j : Int) = ((st N q + (j - q) : Nat) : Int) := by
          unfold atI; rw [if_pos hatB, Int.toNat_natCast, show (f.C + 1).toNat = N from by have := HN.out; omega]; omega
        rw [hatB, hatI] at hat
        have hin := st_in (N := N) (i := q) (d := j - q) (by have := HN.out; omega) (by have := HN.out; omega)
        rw [← HLEN.out] at hin
        have hjl : (j : Int) < (l.length : Int) := by have := HLL.out; have := HN.out; omega
        have hHAT := Lib.hid hat
        have hlc : wr.cell? ⟨bl, offl + j, none⟩ = some (.float .f64 (l[j]?.getD 0)) := (hBr.cell (p := ⟨bl, offl + j, none⟩) hbl).trans (HCL.out j (by omega))
        have hnx := setM_step N q l f.xs j
        have HNX := Lib.hid hnx
        clear hat hatI hatB hnx
        generalize hsk : st N q + (j - q) = k at *
        have HSK := Lib.hid hsk
        clear hsk
        have hkl : (k : Int) < (f.xs.length : Int) := by omega
        have hdc : wr.cell? ⟨g, k, none⟩ = some (.float .f64 (setM N q l f.xs j k)) := by rw [dg.cell]; exact HCP2.out k hin
        have hdf := dg.frozen k
        generalize l[j]?.getD 0 = x at *
        generalize setM N q l f.xs j k = y at *
        go_wp2_with (go_at_call 11; refine (hHAT.out _).mono ?_; rintro e w' ⟨rfl, rfl⟩)
        refine wp_region_still_tail 7 (by kernel_rfl) (by kernel_rfl) ?_
        simp only [List.take_succ_cons, List.take_zero, List.drop_succ_cons, List.drop_zero]
        change wpStill _ _ wr.drew (fun a' => wpList _ _ _ _ a' wr.drew) _ _
        have d0' : Bk wr.drew w.heap.size 24 #[.int .i64 f.C, .slice (some ⟨b, off, none⟩) f.xs.length c, .int .i64 f.R, .int .i64 f.T] := d0
        have d1' : Bk wr.drew (w.heap.size + 1) 24 #[.int .i64 0, .slice none 0 0, .int .i64 0, .int .i64 0] := d1
        have dG' : Bk wr.drew G 24 #[.int .i64 f.C, .slice (some ⟨g, 0, none⟩) f.xs.length cap, .int .i64 f.R, .int .i64 f.T] := dG
        have dg' : Bk wr.drew g 40 cr := dg
        have hBr' : Below w.heap.size w wr.drew := hBr.drew
        have hlc' : wr.drew.cell? ⟨bl, offl + j, none⟩ = some (.float .f64 x) := hlc
        have hdc' : wr.drew.cell? ⟨g, k, none⟩ = some (.float .f64 y) := hdc
        have hdf' : wr.drew.frozen? ⟨g, k, none⟩ = false := hdf
        clear d0 d1 dG dg hBr hlc hdc hdf r0 r1 r2 r3 s0 s1 s2 s3
        generalize wr.drew = wd at *
        obtain ⟨s0, s1, s2, s3⟩ := dG'.c4
        repeat still_step
        refine wpStill_nil ?_
        go_wp2
        go_roundw
        case rel =>
          refine ⟨j + 1, cr.setIfInBounds k (.float .f64 x), by go_num, by omega, by have := HN.out; omega, d0'.other (p := ⟨g, k, none⟩) (by show w.heap.size ≠ g; omega) _, d1'.other (p := ⟨g, k, none⟩) (by show w.heap.size + 1 ≠ g; omega) _, dG'.other (p := ⟨g, k, none⟩) (by show G ≠ g; omega) _, dg'.set k _, by rw [Array.size_setIfInBounds]; exact HCR2.out, fun p hp => ?_, hBr'.setCell (p := ⟨g, k, none⟩) (by show w.heap.size ≤ g; omega) _⟩
          rw [HNX.out p hqj, Array.getElem?_setIfInBounds]
          have hk9 : k < cr.size := by have := HCR2.out; omega
          by_cases hpk : p = k
          · subst hpk; rw [if_pos rfl, if_pos hk9, if_pos rfl]
          · rw [if_neg (fun h => hpk h.symm), if_neg hpk]; exact HCP2.out p hp
        case measure => simp [intOf]; omega
      · obtain rfl : j = N := by have := HN.out; omega
        have hslen := setL_length j q l f.xs
        have hs3 : SlArg wr (some ⟨g, 0, none⟩) (setL j q l f.xs) cap := by
          refine ⟨⟨fun x hx => ?_, fun _ => ⟨g, 0, rfl, dg.lt, fun p hp => ?_⟩⟩, by rw [hslen]; exact hcap, hcm'⟩
          · unfold setL at hx
            rw [List.mem_map] at hx
            obtain ⟨p, _, rfl⟩ := hx
            unfold setP
            split
            · exact HL.out.reads.lt _
            · exact HX.out.reads.lt _
          · rw [hslen] at hp
            rw [setL_get hp, Nat.zero_add, dg.cell, HCP2.out p hp, setM_end]
        have hck := rcheck_any f.C (some ⟨g, 0, none⟩) (setL j q l f.xs) cap f.R f.T wr hs3
        rw [hslen] at hck
        unfold facV at hck
        have HCK3 := Lib.hid hck; have HSL := Lib.hid hslen
        clear hck hslen d0 dg
        go_wp2_with fail
        refine HCK3.out.mono ?_
        clear s0 s1 s2 s3 r0 r1 r2 r3
        rintro e w4 ⟨rfl, hb4⟩
        have y0 := dG.below hb4 dG.lt
        have y1 := d1.below hb4 d1.lt
        have hB4 := hBr.trans (hb4.mono hBr.size)
        have hs4 := hs3.below hb4
        obtain ⟨r0, r1, r2, r3⟩ := y0.c4
        obtain ⟨s0, s1, s2, s3⟩ := y1.c4
        obtain ⟨f0, f1, f2, f3⟩ := y1.f4
        clear hb4 hs3 dG d1 hBr
        cases hres : checkS f.C (setL j q l f.xs) f.R f.T
        · go_wp2
          obtain ⟨x5, y5, z5⟩ := fac_box y1 (.int .i64 0) (.slice none 0 0) (.int .i64 0) (.int .i64 0)
          refine ret_fac2 Try.results20 rfl rfl x5 rfl ⟨⟨_, by rw [hres]; rfl, ?_⟩, y5 _ _ hB4 (by omega)⟩
          have e := HSF.out
          rw [hres, if_neg (by decide)] at e
          rw [e]
          exact facB_zero _ _ _
        · go_wp2
          obtain ⟨x5, y5, z5⟩ := fac_box y1 (.int .i64 f.C) (.slice (some ⟨g, 0, none⟩) f.xs.length cap) (.int .i64 f.R) (.int .i64 f.T)
          refine ret_fac2 Try.results20 rfl rfl x5 rfl ⟨⟨_, by rw [hres]; rfl, ?_⟩, y5 _ _ hB4 (by omega)⟩
          have e := HSF.out
          rw [hres, if_pos rfl] at e
          rw [e]
          exact ⟨some ⟨g, 0, none⟩, cap, by rw [HSL.out]; rfl, z5 _ _ _ hs4 (fun _ a ha => by cases ha; show g ≠ _; omega), .inr (fun a ha => by cases ha; show w.heap.size ≤ g; omega)⟩
  · have hsb : setB f i l = false := by
      rw [Bool.eq_false_iff]
      intro h
      unfold setB at h
      rw [Bool.and_eq_true, Bool.and_eq_true, decide_eq_true_eq] at h
      exact hset h.1
    have hsf : setF f i l = Fct.zero := by unfold setF; rw [hsb, if_neg (by decide)]
    rw [hsb, hsf]
    have hcs : f.ok = false ∨ (f.ok = true ∧ decide (i < 0) = true) ∨ (f.ok = true ∧ decide (i < 0) = false ∧ decide (f.C < i) = true) ∨ (f.ok = true ∧ decide (i < 0) = false ∧ decide (f.C < i) = false ∧ ((l.length : Int) != f.C + 1) = true ∧ 1 ≤ f.C ∧ f.C ≤ 6) := by
      cases hok : f.ok
      · exact .inl rfl
      · right
        have hl := ok_len hok
        simp only [decide_eq_true_eq, decide_eq_false_iff_not, bne_iff_ne]
        by_cases h1 : i < 0
        · exact .inl ⟨trivial, h1⟩
        · by_cases h2 : f.C < i
          · exact .inr (.inl ⟨trivial, h1, h2⟩)
          · exact .inr (.inr ⟨trivial, h1, h2, fun h => hset ⟨hasS_iff.2 ⟨hok, by omega, by omega⟩, h⟩, hl.1, hl.2.1⟩)
    clear hset hsb hsf hx hl
    rcases hcs with hok | ⟨hok, e1⟩ | ⟨hok, e1, e2⟩ | ⟨hok, e1, e2, e3, hC1, hC6⟩
    all_goals
      rw [show checkS f.C f.xs f.R f.T = _ from hok] at HCK
      clear hok
      go_enter Try.func20, Try.ntmps20
      go_wp2_with fail
      refine named ?_
      intro W hW
      obtain ⟨b0, b1, hbW, hsz⟩ := boxes2 hW
      clear hW
      refine (HCK.out W (HX.out.below hbW)).mono ?_
      rintro e w1 ⟨rfl, hb1⟩
      have hB1 := hbW.trans (hb1.mono (by omega))
      have c0 := b0.below hb1 (by omega)
      have c1 := b1.below hb1 (by omega)
      obtain ⟨r0, r1, r2, r3⟩ := c0.c4
      obtain ⟨s0, s1, s2, s3⟩ := c1.c4
      obtain ⟨f0, f1, f2, f3⟩ := c1.f4
      clear hb1 hbW b0 b1
      go_wp2
      obtain ⟨x5, y5, z5⟩ := fac_box c1 (.int .i64 0) (.slice none 0 0) (.int .i64 0) (.int .i64 0)
      exact ret_fac2 Try.results20 rfl rfl x5 rfl ⟨⟨_, rfl, facB_zero _ _ _⟩, y5 _ _ hB1 (by omega)⟩

end Go.Proofs.Ytlenlacjonhicaa
