/- The document's answer: a row of a factor. -/
import Derived.Test.YtkhnoffhbfcgfaaCf
import Derived.Maps.AppendAt
namespace Go.Proofs.Ytkhnoffhbfcgfaa
open Go.RowKit Go.Shelf Lev

theorem take_map (g : Nat → Nat) (j : Nat) : ((List.range (j + 1)).map g).map (Value.float .f64) = ((List.range j).map g).map (Value.float .f64) ++ [.float .f64 (g j)] := by
  rw [List.range_succ, List.map_append, List.map_append]; rfl

theorem madeF_nil (base : Nat) (w : World) : MadeF base w (.slice none 0 0) [] := ⟨none, 0, rfl, ⟨FlR.nil _ _ _, Nat.le_refl _, by decide⟩, fun a ha => by cases ha⟩

set_option maxRecDepth 100000 in
set_option maxHeartbeats 1000000 in
theorem rline_any (f : Fct) (A : Option Addr) (c : Nat) (i : Int) (w : World) (hx : SlArg w A f.xs c) :
    Calls Try.prog 68 #[facV f.C A f.xs.length c f.R f.T, .int .i64 i] w fun e w' => (∃ v, e = .returned v ∧ MadeF w.heap.size w' v (lineS f i)) ∧ Below w.heap.size w w' := by
  have HX := Lib.hid hx
  have HCK := Lib.hid (fun W hW => rcheck_any f.C A f.xs c f.R f.T W hW)
  unfold facV at HCK ⊢
  cases hh : hasS f i
  · have hL : lineS f i = [] := by unfold lineS; rw [hh, if_neg (by decide)]
    rw [hL]
    have hcs : (f.ok = false) ∨ (f.ok = true ∧ (i < 0 ∨ (¬ i < 0 ∧ f.C < i))) := by
      cases hok : f.ok
      · exact .inl rfl
      · refine .inr ⟨rfl, ?_⟩
        unfold hasS at hh
        rw [hok, Bool.true_and, decide_eq_false_iff_not] at hh
        omega
    clear hL hh hx
    rcases hcs with hok | ⟨hok, h1 | ⟨h1, h2⟩⟩
    all_goals
      rw [show checkS f.C f.xs f.R f.T = _ from hok] at HCK
      clear hok
      go_enter Try.func68, Try.ntmps68
      go_wp2_with fail
      refine named ?_
      intro W hW
      obtain ⟨b0, hbW, hsz⟩ := boxes1 hW
      clear hW
      refine (HCK.out W (HX.out.below hbW)).mono ?_
      rintro e w1 ⟨rfl, hb1⟩
      have hB := hbW.trans (hb1.mono (by omega))
      have b1 := b0.below hb1 (by omega)
      obtain ⟨r0, r1, r2, r3⟩ := b1.c4
      clear hb1 hbW b0 b1
      go_wp2
      go_ret
      exact ⟨⟨_, rfl, madeF_nil _ _⟩, hB⟩
  · obtain ⟨hok, h1, h2⟩ := hasS_iff.1 hh
    have hC6 := (ok_len hok).2.1
    have hC1 := (ok_len hok).1
    rw [show checkS f.C f.xs f.R f.T = true from hok] at HCK
    obtain ⟨i0, hi, hz0, hz1, hz2⟩ := info_parts info_f64'
    have HH := Lib.hid hh; have HOK := Lib.hid hok
    have h1' : ¬ i < 0 := by omega
    have h2' : ¬ f.C < i := by omega
    clear hh hok hx
    go_enter Try.func68, Try.ntmps68
    go_wp2_with fail
    refine named ?_
    intro W hW
    obtain ⟨b0, hbW, hsz⟩ := boxes1 hW
    clear hW
    refine (HCK.out W (HX.out.below hbW)).mono ?_
    rintro e w1 ⟨rfl, hb1⟩
    have hB := hbW.trans (hb1.mono (by omega))
    have b1 := b0.below hb1 (by omega)
    obtain ⟨r0, r1, r2, r3⟩ := b1.c4
    clear hb1 hbW b0
    go_wp2
    go_loopw [5, 6] (fun v j wr => ∃ k : Nat, (k : Int) ≤ f.C + 1 ∧ j = .int .i64 (k : Int) ∧ wr.ownsRow (w.heap.size + 1) 26 1 v k (((List.range k).map (fun j : Nat => getS f i j)).map (Value.float .f64)) ∧
        Bk wr w.heap.size 24 #[.int .i64 f.C, .slice A f.xs.length c, .int .i64 f.R, .int .i64 f.T] ∧ Below w.heap.size w wr) (fun _ j _ => (f.C + 1 - intOf j).toNat)
    case atStart => exact ⟨0, by omega, rfl, World.ownsRow_nil _ _ _ _, b1, hB⟩
    case round =>
      obtain ⟨k, hk, rfl, hown, bk, hbr⟩ := hrel
      have hxr := HX.out.below hbr
      clear b1 hB r0 r1 r2 r3
      obtain ⟨r0, r1, r2, r3⟩ := bk.c4
      by_cases hlt : (k : Int) ≤ f.C
      · have hget := rget_any f A c i (k : Int) wr hxr
        unfold facV at hget
        have HG := Lib.hid hget; clear hget
        have hbk := bk.lt
        go_wp2_with fail
        refine HG.out.mono ?_
        rintro e w2 ⟨rfl, hb2⟩
        have hown2 := own_below hown hb2
        have hsz2 := hb2.size
        have bk2 := bk.below hb2 bk.lt
        have hB2 := hbr.trans (hb2.mono hbr.size)
        have KT := Lib.hid (take_map (fun j : Nat => getS f i j) k)
        clear hb2 hown bk hxr r0 r1 r2 r3
        generalize getS f i k = x at *
        go_wp2_with (at_builtin; refine wpList_append_own _ rfl _ _ 22 rfl (w.heap.size + 1) 26 i0 (.float .f64 0) 1 8 Try.underlying22 hi hz0 hz1 hz2 rfl (by decide) _ _ _ rfl (hown2.alloc _) ⟨w2.heap.size, 0, none⟩ 1 1 [.float .f64 x] rfl rfl (cell_one_new _ _ _) (by simp [Value.oneCell']) (by unfold maxLen; omega) (by omega) (by simp; omega) ?_; intro v' w3 hown' hgrow _)
        go_roundw
        case rel =>
          refine ⟨k + 1, by omega, by go_num, by rw [KT.out]; exact hown', ?_, ?_⟩
          · exact (hgrow.block _ (by have := bk2.lt; simp; omega) (fun h => by have := (hown2.lt _ h.symm).1; omega)).trans (bk2.alloc _)
          · exact (hB2.alloc hB2.size _).grown hgrow (by have := hB2.size; simp; omega) (fun g hg => by have := (hown2.lt g hg).1; omega)
        case measure => simp [intOf]; omega
      · have hkN : k = (f.C + 1).toNat := by omega
        have hown2 := hown
        rw [hkN, lineS_range HH.out] at hown2
        have hln := lineS_length HH.out
        rw [← hln] at hown2
        have hmade := made_of_own hown2 (fun y hy => by
          rw [← lineS_range HH.out, List.mem_map] at hy
          obtain ⟨q, _, rfl⟩ := hy
          exact getS_lt HX.out.reads.1 _ _)
        have KM := Lib.hid hmade
        clear hmade hown hown2 hln hkN
        go_wp2
        go_ret
        obtain ⟨A2, c2, e2, s2, l2⟩ := KM.out
        exact ⟨⟨_, rfl, A2, c2, e2, s2, fun a ha => by have := l2 a ha; omega⟩, hbr⟩

end Go.Proofs.Ytkhnoffhbfcgfaa
