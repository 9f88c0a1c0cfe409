/- A factor with a row set: tri.Set. -/
import Derived.Test.YtlenlacjonhicaaCh
import Derived.StillTailTactics
import Derived.Laws.CopyOwn
namespace Lev
open Go
theorem splice_set {cur : List Value} {xs l : List Nat} {N i : Nat} (hcur : cur.take xs.length = xs.map (Value.float .f64)) (hlen : xs.length = st N N) (hi : i < N) (hl : l.length = N) :
    ∀ p, p < xs.length → (splice cur (st N i) ((l.drop i).map (Value.float .f64)))[p]? = some (.float .f64 (setP N i l xs p)) := by
  intro p hp
  have h1 := st_end hi
  rw [st_succ] at h1
  have hcl : xs.length ≤ cur.length := by
    have := congrArg List.length hcur
    rw [List.length_take, List.length_map] at this; omega
  have hold : cur[p]? = some (.float .f64 (xs[p]?.getD 0)) := by
    have h2 := congrArg (·[p]?) hcur
    simp only [List.getElem?_map] at h2
    rw [List.getElem?_take_of_lt hp, List.getElem?_eq_getElem hp] at h2
    rw [h2, List.getElem?_eq_getElem hp]; rfl
  have hcs : ((l.drop i).map (Value.float .f64)).length = N - i := by rw [List.length_map, List.length_drop, hl]
  unfold splice setP
  rw [st_succ, hcs]
  by_cases hin : st N i ≤ p ∧ p < st N i + (N - i)
  · rw [if_pos hin, List.getElem?_append_right (by rw [List.length_take]; omega), List.length_take, Nat.min_eq_left (by omega), List.getElem?_append_left (by rw [hcs]; omega), List.getElem?_map, List.getElem?_drop, List.getElem?_eq_getElem (by omega)]
    rfl
  · rw [if_neg hin]
    by_cases hlt : p < st N i
    · rw [List.getElem?_append_left (by rw [List.length_take]; omega), List.getElem?_take_of_lt hlt, hold]
    · rw [List.getElem?_append_right (by rw [List.length_take]; omega), List.length_take, Nat.min_eq_left (by omega), List.getElem?_append_right (by rw [hcs]; omega), hcs, List.getElem?_drop]
      have e : st N i + (N - i) + (p - st N i - (N - i)) = p := by omega
      rw [e, hold]
end Lev
namespace Go.Proofs.Ytlenlacjonhicaa
open Go.RowKit Go.Shelf Lev

set_option maxRecDepth 100000 in
set_option maxHeartbeats 1000000 in
theorem clone_any (b off : Nat) (xs : List Nat) (c : Nat) (w : World) (hx : SlArg w (some ⟨b, off, none⟩) xs c) (hpos : 0 < xs.length) (hl : xs.length ≤ 1000) :
    Calls Try.prog 37 #[.slice (some ⟨b, off, none⟩) xs.length c] w fun e w' => (∃ v, e = .returned v ∧ w'.ownsRow w.heap.size 40 1 v xs.length (xs.map (Value.float .f64))) ∧ Below w.heap.size w w' := by
  obtain ⟨i0, hi, hz0, hz1, hz2⟩ := info_parts info_f64'
  obtain ⟨b2, off2, hA, hbb, hcell⟩ := hx.reads.2 hpos
  obtain ⟨rfl, rfl⟩ : b2 = b ∧ off2 = off := by cases hA; exact ⟨rfl, rfl⟩
  have hcr : ∀ j u, (xs.map (Value.float .f64))[j]? = some u → (w.alloc (.cells #[] 40)).cell? ((⟨b2, off2, none⟩ : Addr).add j) = some u := fun j u hu => by
    rw [List.getElem?_map] at hu
    cases h2 : xs[j]? with
    | none => rw [h2] at hu; cases hu
    | some y =>
      rw [h2] at hu; cases hu
      have hj := (List.getElem?_eq_some_iff.1 h2).1
      have e2 : (⟨b2, off2, none⟩ : Addr).add j = ⟨b2, off2 + j, none⟩ := by
        unfold Addr.add; split
        · subst_vars; rfl
        · rfl
      have h3 := hcell j hj
      rw [h2] at h3
      rw [e2, World.cell?_alloc_lt _ _ _ hbb]; exact h3
  have h1c : ∀ u ∈ xs.map (Value.float .f64), u.oneCell' = true := fun u hu => by
    rw [List.mem_map] at hu; obtain ⟨y, _, rfl⟩ := hu; rfl
  have hown := World.ownsRow_made (e := 40) (size := 1) (base := w.heap.size) w #[] 0 (Nat.le_refl _) (by decide) rfl
  have HCR := Lib.hid hcr; have H1C := Lib.hid h1c
  have hneq : ∀ w : World, (binOp .eql 22 (.slice (some ⟨b2, off2, none⟩) xs.length c) (.slice none 0 0)).run Try.prog w = .ok (.bool false) w := fun w => by kernel_rfl
  clear hcr h1c hA hcell hx
  go_enter Try.func37, Try.ntmps37
  go_wp2_with (at_builtin; refine wpList_append_own _ rfl _ _ 22 rfl w.heap.size 40 i0 (.float .f64 0) 1 8 Try.underlying22 hi hz0 hz1 hz2 rfl (by decide) _ 0 _ rfl hown ⟨b2, off2, none⟩ xs.length c (xs.map (Value.float .f64)) rfl (by rw [List.length_map, Nat.mul_one]) HCR.out H1C.out (by unfold maxLen; omega) (by omega) (by simp) ?_; intro v' w2 hown' hgrow _; rw [Nat.zero_add, List.nil_append] at hown')
  go_ret
  exact ⟨⟨_, rfl, hown'⟩, ((Below.refl w.heap.size w).alloc (Nat.le_refl _) _).grown hgrow (by simp) (fun g hg => (hown.lt g hg).1)⟩

set_option maxRecDepth 100000 in
set_option maxHeartbeats 2000000 in
theorem set_any (f : Fct) (A : Option Addr) (c : Nat) (i : Int) (l : List Nat) (L : Option Addr) (cl : Nat) (w : World) (hx : SlArg w A f.xs c) (hl : SlArg w L l cl) :
    Calls Try.prog 19 #[facV f.C A f.xs.length c f.R f.T, .int .i64 i, .slice L l.length cl] w fun e w' => (∃ v, e = .returned (.tuple #[v, .bool (setB f i l)]) ∧ FacB w.heap.size none w' v (setF f i l)) ∧ Below w.heap.size w w' := by
  have HX := Lib.hid hx; have HL := Lib.hid hl
  have HH := Lib.hid (fun W hW => has_any f A c i W hW)
  have hl63 : l.length ≤ 9223372036854775807 := Nat.le_trans hl.cap hl.room
  unfold facV at HH ⊢
  by_cases hset : hasS f i = true ∧ (l.length : Int) = f.C + 1
  · obtain ⟨hh, hll⟩ := hset
    obtain ⟨hok, h1, h2⟩ := hasS_iff.1 hh
    have hC6 := (ok_len hok).2.1
    have hC1 := (ok_len hok).1
    have hlen := (ok_len hok).2.2.1
    rw [hh] at HH
    obtain ⟨N, hN⟩ : ∃ N : Nat, (N : Int) = f.C + 1 := ⟨(f.C + 1).toNat, by omega⟩
    have hNe : (f.C + 1).toNat = N := by omega
    obtain ⟨q, hq⟩ : ∃ q : Nat, i = (q : Int) := ⟨i.toNat, by omega⟩
    subst hq
    have hsb : setB f (q : Int) l = checkS f.C (setL N q l f.xs) f.R f.T := by unfold setB; rw [hh, decide_eq_true hll, hNe, Int.toNat_natCast]; rfl
    have hsf : setF f (q : Int) l = if checkS f.C (setL N q l f.xs) f.R f.T = true then ⟨f.C, setL N q l f.xs, f.R, f.T⟩ else Fct.zero := by unfold setF; rw [hsb, hNe, Int.toNat_natCast]
    rw [hsb]
    have HSF := Lib.hid hsf
    rw [hNe] at hlen
    have hpos : 0 < f.xs.length := by
      have := st_all N
      have h3 : 2 ≤ N := by omega
      have := Nat.mul_le_mul h3 h3
      omega
    obtain ⟨b, off, hA, hbb, hcell⟩ := hx.reads.2 hpos
    subst hA
    obtain ⟨bl, offl, hLA, hbl, hcl⟩ := hl.reads.2 (by omega)
    subst hLA
    have hlN : l.length = N := by omega
    have hln : ((l.length : Int) != f.C + 1) = false := by rw [bne_eq_false_iff_eq]; exact hll
    have hl28 : f.xs.length ≤ 28 := (ok_len hok).2.2.2.2.2.2.2.1
    have HOK := Lib.hid hok; have HLEN := Lib.hid hlen; have HN := Lib.hid hN; have HCL := Lib.hid hcl; have HLL := Lib.hid hlN
    clear hh hok hx hl hlen hNe hcell hN hcl hsb hsf hll hlN
    go_enter Try.func19, Try.ntmps19
    go_wp2_with fail
    refine named ?_
    intro W hW
    obtain ⟨b0, b1, hbW, hsz⟩ := boxes2 hW
    clear hW
    refine (HH.out W (HX.out.below hbW)).mono ?_
    rintro e w1 ⟨rfl, hb1⟩
    have hB1 := hbW.trans (hb1.mono (by omega))
    have c0 := b0.below hb1 (by omega)
    have c1 := b1.below hb1 (by omega)
    have hx1 := (HX.out.below hbW).below hb1
    have hsz1 := hb1.size
    obtain ⟨r0, r1, r2, r3⟩ := c0.c4
    clear hb1 hbW b0 b1
    go_wp2_with fail
    have hclo := clone_any b off f.xs c w1 hx1 hpos (by omega)
    refine hclo.mono ?_
    clear hclo
    rintro e w2 ⟨⟨v, rfl, hown⟩, hb2⟩
    have hB2 := hB1.trans (hb2.mono hB1.size)
    have d0 := c0.below hb2 c0.lt
    have d1 := c1.below hb2 c1.lt
    have hsz2 := hb2.size
    obtain ⟨g, cap, cur, rfl, hgb, hg, hcap, hcm, hcs, hct⟩ : ∃ g cap cur, v = .slice (some ⟨g, 0, none⟩) f.xs.length cap ∧ w1.heap.size ≤ g ∧ w2.heap[g]? = some (.cells cur 40 (0, 0)) ∧ f.xs.length ≤ cap ∧ cap ≤ maxLen ∧ cur.size = cap * 1 ∧ cur.toList.take (f.xs.length * 1) = f.xs.map (Value.float .f64) := by
      rcases hown.2 with ⟨_, h0⟩ | h
      · omega
      · exact h
    obtain ⟨r0, r1, r2, r3⟩ := d0.c4
    obtain ⟨f0, f1, f2, f3⟩ := d0.f4
    have hgl : g < w2.heap.size := Bk.lt hg
    have HG := Lib.hid hg; have HCT := Lib.hid hct; have HCS := Lib.hid hcs
    have hcm' : cap ≤ 9223372036854775807 := hcm
    clear hb2 c0 c1 hx1 hown hg hct hcs hcm hB1
    go_wp2_with fail
    obtain ⟨V, hV⟩ : ∃ V, V = w2.setCell ⟨w.heap.size, 1, none⟩ (.slice (some ⟨g, 0, none⟩) f.xs.length cap) := ⟨_, rfl⟩
    rw [← hV]
    have v0 : Bk V w.heap.size 24 #[.int .i64 f.C, .slice (some ⟨g, 0, none⟩) f.xs.length cap, .int .i64 f.R, .int .i64 f.T] := by rw [hV]; exact (d0.set4 _).2.1
    have v1 : Bk V (w.heap.size + 1) 24 #[.int .i64 0, .slice none 0 0, .int .i64 0, .int .i64 0] := by rw [hV]; exact d1.other (p := ⟨w.heap.size, 1, none⟩) (by simp) _
    have v2 : V.heap[g]? = some (.cells cur 40 (0, 0)) := by rw [hV]; exact (Below.heap_setCell _ _ _ _ (by simp; omega)).trans HG.out
    have hBV : Below w.heap.size w V := by rw [hV]; exact hB2.setCell (p := ⟨w.heap.size, 1, none⟩) (Nat.le_refl _) _
    have HV2 := Lib.hid v2
    clear hV r0 r1 r2 r3 f0 f1 f2 f3 d0 d1 hB2 v2
    obtain ⟨r0, r1, r2, r3⟩ := v0.c4
    have hbf := fun w => before_any f.C (q : Int) N HN.out hC1 hC6 h1 h2 w
    rw [Int.toNat_natCast] at hbf
    have HBF := Lib.hid hbf
    clear hbf
    refine wp_region_still_tail 10 (by kernel_rfl) (by kernel_rfl) ?_
    simp only [List.take_succ_cons, List.take_zero, List.drop_succ_cons, List.drop_zero]
    change wpStill _ _ V.drew (fun a' => wpList _ _ _ _ a' V.drew) _ _
    have v0' : Bk V.drew w.heap.size 24 #[.int .i64 f.C, .slice (some ⟨g, 0, none⟩) f.xs.length cap, .int .i64 f.R, .int .i64 f.T] := v0
    have v1' : Bk V.drew (w.heap.size + 1) 24 #[.int .i64 0, .slice none 0 0, .int .i64 0, .int .i64 0] := v1
    have v2' : V.drew.heap[g]? = some (.cells cur 40 (0, 0)) := HV2.out
    have hBV' : Below w.heap.size w V.drew := hBV.drew
    clear v0 v1 hBV r0 r1 r2 r3 HV2
    generalize V.drew = V2 at *
    obtain ⟨r0, r1, r2, r3⟩ := v0'.c4
    have HV2 := Lib.hid v2'
    clear v2'
    have hsN : (st N q : Int) ≤ (f.xs.length : Int) := by
      have := st_le (N := N) (k := q) (m := N) (by have := HN.out; omega)
      have := HLEN.out; omega
    have hsN0 : ¬ cap = st N q := by
      have := st_in (N := N) (i := q) (d := 0) (by have := HN.out; omega) (by have := HN.out; omega)
      have := HLEN.out; omega
    have hqN : (q : Int) ≤ (l.length : Int) := by have := HLL.out; have := HN.out; omega
    have hqN0 : ¬ cl = q := by have := HL.out.cap; have := HLL.out; have := HN.out; omega
    have hlcl : (l.length : Int) ≤ (cl : Int) := by have := HL.out.cap; omega
    have hcl63 : (cl : Int) ≤ 9223372036854775807 := by have := HL.out.room; omega
    generalize hsv : st N q = s at *
    have HSV := Lib.hid hsv; clear hsv
    still_step
    still_step
    still_step
    still_step
    still_step
    still_call ((HBF.out _).mono fun _ _ ⟨he, hw⟩ => ⟨he, hw.symm⟩)
    still_step
    still_step
    still_step
    still_step
    refine wpStill_nil ?_
    have hgV : g < V2.heap.size := Bk.lt HV2.out
    have hcsl : ((l.drop q).map (Value.float .f64)).length = Nat.min (l.length - q) (f.xs.length - s) := by
      rw [List.length_map, List.length_drop]
      have h1 := st_end (N := N) (i := q) (by have := HN.out; omega)
      rw [st_succ, HSV.out] at h1
      have := HLL.out; have := HLEN.out
      show _ = min _ _
      omega
    have hfit : s + ((l.drop q).map (Value.float .f64)).length ≤ cur.toList.length := by
      have hct2 : cur.toList.length = cap := by have := HCS.out; rw [Nat.mul_one] at this; rw [← this]; rfl
      rw [List.length_map, List.length_drop, hct2]
      have h1 := st_end (N := N) (i := q) (by have := HN.out; omega)
      rw [st_succ, HSV.out] at h1
      have := HLL.out; have := HLEN.out
      omega
    have hsrc : ∀ j v, ((l.drop q).map (Value.float .f64))[j]? = some v → V2.cell? ((⟨bl, offl + q, none⟩ : Addr).add j) = some v := fun j v hv => by
      rw [List.getElem?_map, List.getElem?_drop] at hv
      cases h2 : l[q + j]? with
      | none => rw [h2] at hv; cases hv
      | some y =>
        rw [h2] at hv; cases hv
        have hj := (List.getElem?_eq_some_iff.1 h2).1
        have e2 : (⟨bl, offl + q, none⟩ : Addr).add j = ⟨bl, offl + (q + j), none⟩ := by
          unfold Addr.add; split
          · subst_vars; rw [Nat.add_zero]
          · rw [Nat.add_assoc]
        have h3 := (hBV'.cell (p := ⟨bl, offl + (q + j), none⟩) hbl).trans (HCL.out _ hj)
        rw [h2] at h3
        rw [e2]; exact h3
    have h1c : ∀ v ∈ (l.drop q).map (Value.float .f64), v.oneCell' = true := fun u hu => by
      rw [List.mem_map] at hu; obtain ⟨y, _, rfl⟩ := hu; rfl
    refine wpList_copy_splice rfl _ _ 22 22 rfl 40 Try.underlying22 (by kernel_rfl) (some ⟨g, s, none⟩) (some ⟨bl, offl + q, none⟩) (f.xs.length - s) (cap - s) (l.length - q) (cl - q) rfl rfl g s cur.toList 40 HV2.out ((l.drop q).map (Value.float .f64)) hcsl (fun _ => ⟨rfl, _, rfl, hsrc⟩) hfit h1c g V2 (Below.refl _ _) (Nat.le_refl _) ?_
    intro w3 hg3 hb3
    have hslen := setL_length N q l f.xs
    have hs3 : SlArg w3 (some ⟨g, 0, none⟩) (setL N q l f.xs) cap := by
      refine ⟨⟨fun x hx => ?_, fun _ => ⟨g, 0, rfl, Nat.lt_of_lt_of_le hgV hb3.size, fun j hj => ?_⟩⟩, by rw [hslen]; exact hcap, hcm'⟩
      · unfold setL at hx
        rw [List.mem_map] at hx
        obtain ⟨p, _, rfl⟩ := hx
        unfold setP
        split
        · exact HL.out.reads.lt _
        · exact HX.out.reads.lt _
      · rw [hslen] at hj
        rw [setL_get hj, Nat.zero_add, cell_of_row w3 g j _ _ _ hg3.out]
        have h4 := splice_set (cur := cur.toList) (xs := f.xs) (l := l) (N := N) (i := q) (by have := HCT.out; rwa [Nat.mul_one] at this) HLEN.out (by have := HN.out; omega) HLL.out j hj
        rw [HSV.out] at h4
        simpa using h4
    have x0 := v0'.below hb3 (by omega)
    have x1 := v1'.below hb3 (by omega)
    have hB3 := hBV'.trans (hb3.mono (by omega))
    have hg9 : w.heap.size + 1 < g := by omega
    obtain ⟨r0', r1', r2', r3'⟩ := x0.c4
    obtain ⟨s0, s1, s2, s3⟩ := x1.c4
    obtain ⟨f0, f1, f2, f3⟩ := x1.f4
    have hck := check_any f.C (some ⟨g, 0, none⟩) (setL N q l f.xs) cap f.R f.T w3 hs3
    rw [hslen] at hck
    unfold facV at hck
    have HCK := Lib.hid hck
    have HSL := Lib.hid hslen
    clear hck hslen r0 r1 r2 r3 hcsl hfit hsrc h1c hb3 hg3 v0' v1' hBV' HV2
    go_wp2_with fail
    refine HCK.out.mono ?_
    clear r0' r1' r2' r3' s0 s1 s2 s3 f0 f1 f2 f3
    rintro e w4 ⟨rfl, hb4⟩
    have y0 := x0.below hb4 x0.lt
    have y1 := x1.below hb4 x1.lt
    have hB4 := hB3.trans (hb4.mono hB3.size)
    have hs4 := hs3.below hb4
    obtain ⟨r0, r1, r2, r3⟩ := y0.c4
    obtain ⟨s0, s1, s2, s3⟩ := y1.c4
    obtain ⟨f0, f1, f2, f3⟩ := y1.f4
    clear hb4 hs3 x0 x1 hB3
    cases hres : checkS f.C (setL N q l f.xs) f.R f.T
    · go_wp2
      obtain ⟨x5, y5, z5⟩ := fac_box y1 (.int .i64 0) (.slice none 0 0) (.int .i64 0) (.int .i64 0)
      refine ret_fac2 Try.results19 rfl rfl x5 rfl ⟨⟨_, by rw [hres]; rfl, ?_⟩, y5 _ _ hB4 (by omega)⟩
      have e := HSF.out
      rw [hres, if_neg (by decide)] at e
      rw [e]
      exact facB_zero _ _ _
    · go_wp2
      obtain ⟨x5, y5, z5⟩ := fac_box y1 (.int .i64 f.C) (.slice (some ⟨g, 0, none⟩) f.xs.length cap) (.int .i64 f.R) (.int .i64 f.T)
      refine ret_fac2 Try.results19 rfl rfl x5 rfl ⟨⟨_, by rw [hres]; rfl, ?_⟩, y5 _ _ hB4 (by omega)⟩
      have e := HSF.out
      rw [hres, if_pos rfl] at e
      rw [e]
      exact ⟨some ⟨g, 0, none⟩, cap, by rw [HSL.out]; rfl, z5 _ _ _ hs4 (fun _ a ha => by cases ha; show g ≠ _; omega), .inr (fun a ha => by cases ha; show w.heap.size ≤ g; omega)⟩
  · have hsb : setB f i l = false := by
      rw [Bool.eq_false_iff]
      intro h
      unfold setB at h
      rw [Bool.and_eq_true, Bool.and_eq_true, decide_eq_true_eq] at h
      exact hset h.1
    have hsf : setF f i l = Fct.zero := by unfold setF; rw [hsb, if_neg (by decide)]
    rw [hsb, hsf]
    have hcs : hasS f i = false ∨ (hasS f i = true ∧ ((l.length : Int) != f.C + 1) = true ∧ 1 ≤ f.C ∧ f.C ≤ 6) := by
      cases hh : hasS f i
      · exact .inl rfl
      · have hok := ok_len (hasS_iff.1 hh).1
        exact .inr ⟨rfl, by rw [bne_iff_ne]; exact fun h => hset ⟨hh, h⟩, hok.1, hok.2.1⟩
    clear hset hsb hsf hx hl
    rcases hcs with hh | ⟨hh, hln, hC1, hC6⟩
    all_goals
      rw [hh] at HH
      clear hh
      go_enter Try.func19, Try.ntmps19
      go_wp2_with fail
      refine named ?_
      intro W hW
      obtain ⟨b0, b1, hbW, hsz⟩ := boxes2 hW
      clear hW
      refine (HH.out W (HX.out.below hbW)).mono ?_
      rintro e w1 ⟨rfl, hb1⟩
      have hB1 := hbW.trans (hb1.mono (by omega))
      have c0 := b0.below hb1 (by omega)
      have c1 := b1.below hb1 (by omega)
      obtain ⟨r0, r1, r2, r3⟩ := c0.c4
      obtain ⟨s0, s1, s2, s3⟩ := c1.c4
      obtain ⟨f0, f1, f2, f3⟩ := c1.f4
      clear hb1 hbW b0 b1
      go_wp2
      obtain ⟨x5, y5, z5⟩ := fac_box c1 (.int .i64 0) (.slice none 0 0) (.int .i64 0) (.int .i64 0)
      exact ret_fac2 Try.results19 rfl rfl x5 rfl ⟨⟨_, rfl, facB_zero _ _ _⟩, y5 _ _ hB1 (by omega)⟩

end Go.Proofs.Ytlenlacjonhicaa
