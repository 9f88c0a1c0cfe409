/- The document's inverse: Errors. -/
import Derived.Test.YtigacobphgeeaaaXo9
set_option linter.unusedVariables false
namespace Go.Proofs.Ytigacobphgeeaaa
open Go.RowKit Go.Shelf Lev

theorem RMat.tail {w : World} {B n : Nat} {b k : Nat → Nat} {M : Nat → Nat → Nat} (h : RMat w B n b (fun _ => 0) k M) {i : Nat} (hi : i < n) : SlArg w (some ⟨b i, i, none⟩) ((rowL M i n).drop i) (k i - i) := by
  obtain ⟨h1, h2⟩ := h.cap i hi
  refine ⟨⟨fun x hx => (h.row_arg hi).reads.1 x (List.mem_of_mem_drop hx), fun _ => ⟨b i, i, rfl, h.rlt i hi, fun j hj => ?_⟩⟩, by rw [List.length_drop, rowL_len]; omega, by omega⟩
  rw [List.length_drop, rowL_len] at hj
  have h3 := h.row i (i + j) hi (by omega)
  rw [Nat.zero_add] at h3
  rw [h3, List.getElem?_drop, rowL_get _ (by omega)]
def Err18P (f : Fct) (lo : Nat) (e : Ending) (w' : World) : Prop := ∃ v, e = .returned (.tuple #[v, .int .i64 (errE f)]) ∧ MadeF lo w' v (errL f)
theorem Err18P.bad {f : Fct} {lo : Nat} {w' : World} {E : Int} (h : errE f = E) (h0 : E ≠ 0) : Err18P f lo (.returned (.tuple #[.slice none 0 0, .int .i64 E])) w' := by
  have hr : errL f = [] := by unfold errL; rw [if_neg (by rw [h]; exact h0)]
  unfold Err18P
  rw [h, hr]
  exact ⟨_, rfl, none, 0, rfl, ⟨FlR.nil _ _ _, Nat.le_refl _, by decide⟩, fun a ha => by cases ha⟩

attribute [local go_sem] run_store_float run_mul_all

set_option maxRecDepth 100000 in
set_option maxHeartbeats 8000000 in
theorem Errors18_any (f : Fct) (A : Option Addr) (c : Nat) (w : World) (hx : SlArg w A f.xs c) :
    Calls Try.prog 19 #[facV f.C A f.xs.length c f.R f.T] w fun e w' => Err18P f w.heap.size e w' ∧ Below w.heap.size w w' := by
  have K0 := Lib.hid (((Keep.start w).more hx).alloc #[.int .i64 f.C, .slice A f.xs.length c, .int .i64 f.R, .int .i64 f.T] 24)
  have hof := fun W h => rof_any f A c W h
  have hro := fun W h => rows18_any f A c W h
  obtain ⟨ii, sa, st1, sv1, sx1, hst, hsq, hsp64, _, _, _, _, hi1, hi2⟩ := st_open f
  rw [hst] at hof
  by_cases h1 : stE f = 0
  · by_cases h2 : invE f = 0
    · have hok : f.ok = true := by
        unfold invE at h2
        cases h : f.ok
        · rw [if_pos h] at h2; exact absurd h2 (by decide)
        · rfl
      have hc := ok_len hok
      obtain ⟨n, hn⟩ : ∃ n : Nat, f.C = (n : Int) := ⟨f.C.toNat, by omega⟩
      have hn6 : 1 ≤ n ∧ n ≤ 6 := by omega
      have hCn : f.C.toNat = n := by omega
      obtain ⟨_, hfw, _⟩ := invE_nw h2 hn
      have hwh := fun W h => whole_any f A c W h hok n hn
      have hee : errE f = if errW f n = true then 2 else 0 := by unfold errE; rw [if_neg (by rw [h1]; decide), if_neg (by rw [h2]; decide), hCn]
      have hel : errE f = 0 → errL f = (List.range n).map (errF f n) := fun h => by unfold errL; rw [hCn, if_pos h]
      have hef := fun i => show errF f n i = arS .mul (spV f) (szF f n i) from rfl
      have HSZ := Lib.hid (fun (B : Nat) (b : Nat → Nat) (M : Nat → Nat → Nat) (i : Nat) (hi : i < n) W (hm : RMat W B n b (fun _ => 0) (fun _ => n) M) (hM : ∀ i j, i ≤ j → j < n → cn (M i j) = wS (gS f) i j) => show Calls Try.prog 49 #[.slice (some ⟨b i, i, none⟩) (n - i) (n - i)] W fun e w' => e = .returned (.float .f64 (szF f n i)) ∧ ∃ t, w' = W.drewN t from
        size18_any ((rowL M i n).drop i) (some ⟨b i, i, none⟩) (n - i) (n - i) (by rw [List.length_drop, rowL_len]) (by omega) (by omega) W (hm.tail hi) (fun s => wS (gS f) i (i + s)) (fun s hs => by
          rw [List.getElem?_drop, rowL_get _ (by omega)]
          exact cn_back (hM i (i + s) (by omega) (by omega)) (hfw i (i + s) (by omega) (by omega))) (fun s hs => hfw i (i + s) (by omega) (by omega)))
      have HSQ := Lib.hid (fun W => sqrt_any sv1 _ hsq W)
      obtain ⟨i0, hi, hz0, hz1, hz2⟩ := info_parts info_f64'
      have HI := Lib.hid hi; have HZ0 := Lib.hid hz0; have HZ1 := Lib.hid hz1; have HZ2 := Lib.hid hz2
      have HBADE := Lib.hid (fun (h : errW f n = true) (w' : World) => Err18P.bad (lo := w.heap.size) (w' := w') (show errE f = 2 by rw [hee, h]; rfl) (by decide))
      have HGOOD := Lib.hid (fun (h : errW f n = false) => show errE f = 0 ∧ errL f = (List.range n).map (errF f n) from by
        have h0 : errE f = 0 := by rw [hee, h]; rfl
        exact ⟨h0, hel h0⟩)
      rw [h1] at hof
      unfold Rows18P at hro
      rw [h2] at hro
      unfold facV at hof hro hwh ⊢
      rw [hn] at hof hro hwh K0 ⊢
      have HOF := Lib.hid hof; have HRO := Lib.hid hro; have HWH := Lib.hid hwh; have HEF := Lib.hid hef
      obtain ⟨hn1, hn2⟩ := hn6
      generalize spV f = sp at *
      clear hx hof hro hwh hee hel h1 h2 hc hfw hst hsq hef hi hz0 hz1 hz2 hok hn
      go_enter Try.func19, Try.ntmps19
      go_wp2_with fail
      refine (HOF.out _ (K0.out.arg (.head _))).mono ?_
      rintro e w1 ⟨rfl, hb⟩
      have K1 := Lib.hid ((K0.out.call hb).alloc #[.int .i64 ii, .float .f64 sa, .float .f64 st1, .float .f64 sv1, .float .f64 sx1] 48)
      obtain ⟨r0, r1, r2, r3⟩ := (K1.out.box (.tail _ (.head _))).c4
      clear hb
      go_wp2_with fail
      refine (HRO.out _ (K1.out.arg (.head _))).mono ?_
      rintro e w2 ⟨⟨v, rfl, _⟩, hb⟩
      have K2 := Lib.hid (K1.out.call hb)
      clear hb r0 r1 r2 r3
      obtain ⟨r0, r1, r2, r3⟩ := (K2.out.box (.tail _ (.head _))).c4
      go_wp2_with fail
      refine (HWH.out _ (K2.out.arg (.head _))).mono ?_
      rintro e w3 ⟨⟨B, cB, rfl, hcB, b, M, hwm, hM, _⟩, hb⟩
      have K3 := Lib.hid (K2.out.call hb)
      have HWM := Lib.hid hwm; have HM := Lib.hid hM
      have hs3 : w.heap.size ≤ w3.heap.size := K3.out.below.size
      clear hb hwm hM r0 r1 r2 r3
      go_wp2_with fail
      go_loopw [7, 8] (fun ov iv wr => ∃ q : Nat, q ≤ n ∧ iv = .int .i64 (q : Int) ∧ wr.ownsRow w3.heap.size 29 1 ov q (((List.range q).map (errF f n)).map (Value.float .f64)) ∧ (∀ i, i < q → wildS (errF f n i) = false) ∧ Below w3.heap.size w3 wr) (fun _ iv _ => n - (intOf iv).toNat)
      case atStart => exact ⟨0, Nat.zero_le _, rfl, ⟨rfl, .inl ⟨rfl, rfl⟩⟩, fun i h => absurd h (Nat.not_lt_zero _), Below.refl _ _⟩
      case round =>
        obtain ⟨q, hq, rfl, hown, hnw, hbl⟩ := hrel
        have hK := K3.out.call hbl
        obtain ⟨r0, r1, r2, r3⟩ := (hK.box (.tail _ (.head _))).c4
        have hc3 : wr.cell? ⟨w1.heap.size, 3, none⟩ = some (.float .f64 sv1) := (hK.box (.head _)).cell 3
        have HO := Lib.hid hown; have HNW := Lib.hid hnw; have HBL := Lib.hid hbl
        have hsz := hbl.size
        by_cases hlt : (q : Int) < (n : Int)
        · have hqn : q < n := by omega
          have hW := HWM.out.below hbl
          have a0 := hW.rm.out q hqn
          have HSQ2 := HSQ
          have HS2 := Lib.hid (HSZ.out B b M q hqn)
          have hqle : (q : Int) ≤ (n : Int) := by omega
          have hne : ¬ n = q := by omega
          have HWY := Lib.hid (fun Y (h : Below wr.heap.size wr Y) => And.intro (hW.below h).rm (And.intro ((hW.below h).rm.out q hqn) (show Y.cell? ⟨w1.heap.size, 3, none⟩ = some (.float .f64 sv1) from ((hK.call h).box (.head _)).cell 3)))
          clear hown hnw hbl hK hW
          go_wp2_with fail
          go_cut [9] (fun s9 wx => ∃ v : Nat, s9 = .float .f64 v ∧ v < 18446744073709551616 ∧ cn v = errF f n q ∧ Below wr.heap.size wr wx)
          case first =>
            go_region_with (first
              | (go_at_call 48; (refine (HSQ.out _).mono ?_); rintro e w4 ⟨rfl, rfl⟩)
              | (go_at_call 49; (refine (HS2.out _ ?_ HM.out).mono ?_); (exact (HWY.out _ (by repeat (first | assumption | exact Below.refl _ _ | refine Below.drews ?_ | refine Below.drewNs ?_ _ | refine Below.chain ?_ (by assumption)))).1); rintro e w5 ⟨rfl, t5, rfl⟩))
            all_goals
              go_wp2_with fail
              go_meet
              refine ⟨_, rfl, arV_lt _ _ _ _, ?_, ?_⟩
              · rw [cn_arV, HEF.out]
              · repeat (first | assumption | exact Below.refl _ _ | refine Below.drews ?_ | refine Below.drewNs ?_ _ | refine Below.chain ?_ (by assumption))
          case rest =>
            obtain ⟨v, rfl, hv64, hcn, hbl2⟩ := hcut
            have HNU := Lib.hid (fun W => number_any v hv64 W)
            have hwc : wildS v = wildS (errF f n q) := by rw [wild_cn, hcn]
            rw [hwc] at HNU
            have HCN := Lib.hid hcn; have HV64 := Lib.hid hv64; have HB2 := Lib.hid hbl2
            have HO2 := Lib.hid (own_below HO.out hbl2)
            have hsz2 := hbl2.size
            clear hcn hv64 hwc hbl2 a0 r0 r1 r2 r3 hc3
            cases hwd : wildS (errF f n q)
            · rw [hwd] at HNU
              have hv : v = errF f n q := by
                refine cn_back HCN.out ?_
                unfold wildS at hwd
                rw [decide_eq_false_iff_not] at hwd
                omega
              have hMM : ((List.range q).map (errF f n)).map (Value.float .f64) ++ [Value.float .f64 v] = ((List.range (q + 1)).map (errF f n)).map (Value.float .f64) := by rw [List.range_succ, List.map_append, List.map_append, hv]; rfl
              have HMM := Lib.hid hMM; have HWD := Lib.hid hwd
              clear hv hMM hwd
              go_wp2_with fail
              refine (HNU.out _).mono ?_
              rintro e w5 ⟨rfl, rfl⟩
              go_wp2_with (at_builtin; refine wpList_append_own _ rfl _ _ 22 rfl w3.heap.size 29 i0 (.float .f64 0) 1 8 Try.underlying22 HI.out HZ0.out HZ1.out HZ2.out rfl (by decide) _ q _ rfl (HO2.out.alloc _) ⟨wc.heap.size, 0, none⟩ 1 1 [.float .f64 v] rfl rfl (cell_one_new _ _ _) (by simp [Value.oneCell']) (by unfold maxLen; omega) (by omega) (by simp; omega) ?_; intro v' w6 hown' hgrow _)
              go_roundw
              case rel => exact ⟨q + 1, by omega, by go_num, by rw [← HMM.out]; exact hown', fun i hi => by
                by_cases e : i = q
                · subst e; exact HWD.out
                · exact HNW.out i (by omega), ((Below.chain HBL.out HB2.out).alloc (by omega) _).grown hgrow (by simp; omega) (own_from HO2.out)⟩
              case measure => simp [intOf]; omega
            · rw [hwd] at HNU
              have hew : errW f n = true := by
                unfold errW
                rw [List.any_eq_true]
                exact ⟨q, List.mem_range.2 hqn, hwd⟩
              have HR := Lib.hid (HBADE.out hew)
              clear hew hwd
              go_wp2_with fail
              refine (HNU.out _).mono ?_
              rintro e w5 ⟨rfl, rfl⟩
              go_wp2
              go_ret2
              exact ⟨HR.out _, Below.chain K3.out.below (Below.chain HBL.out HB2.out)⟩
        · have hqe : q = n := by omega
          have hew : errW f n = false := by
            unfold errW
            rw [List.any_eq_false]
            intro i hi
            rw [List.mem_range] at hi
            rw [Bool.not_eq_true]
            exact hnw i (by omega)
          obtain ⟨hE0, hL0⟩ := HGOOD.out hew
          rw [hqe] at hown
          have hl9 : ((List.range n).map (errF f n)).length = n := by rw [List.length_map, List.length_range]
          have hmd := made_of_own (base := w3.heap.size) (v := u7) (ys := (List.range n).map (errF f n)) (by rw [hl9]; exact hown) (fun y hy => by
            rw [List.mem_map] at hy
            obtain ⟨i, _, rfl⟩ := hy
            exact arS_lt _ _ _)
          have HR := Lib.hid (show Err18P f w.heap.size (.returned (.tuple #[u7, .int .i64 0])) wr from by
            unfold Err18P
            rw [hE0, hL0]
            obtain ⟨A2, c2, h1, h2, h3⟩ := hmd
            exact ⟨_, rfl, A2, c2, h1, h2, fun a ha => by have := h3 a ha; omega⟩)
          clear hqe hE0 hL0 hmd hown hnw hbl hK hew hl9
          go_wp2
          go_ret2
          exact ⟨HR.out, Below.chain K3.out.below HBL.out⟩
    · have hee : errE f = invE f := by unfold errE; rw [if_neg (by rw [h1]; decide), if_pos h2]
      have HR := Lib.hid (fun w' => Err18P.bad (lo := w.heap.size) (w' := w') hee h2)
      have t0 : (invE f != 0) = true := by rw [bne_iff_ne]; exact h2
      rw [h1] at hof
      unfold Rows18P at hro
      unfold facV at hof hro ⊢
      have HOF := Lib.hid hof; have HRO := Lib.hid hro
      clear hx hof hro hee h1 h2 hst hsq
      generalize invE f = E at *
      go_enter Try.func19, Try.ntmps19
      go_wp2_with fail
      refine (HOF.out _ (K0.out.arg (.head _))).mono ?_
      rintro e w1 ⟨rfl, hb⟩
      have K1 := Lib.hid ((K0.out.call hb).alloc #[.int .i64 ii, .float .f64 sa, .float .f64 st1, .float .f64 sv1, .float .f64 sx1] 48)
      obtain ⟨r0, r1, r2, r3⟩ := (K1.out.box (.tail _ (.head _))).c4
      clear hb
      go_wp2_with fail
      refine (HRO.out _ (K1.out.arg (.head _))).mono ?_
      rintro e w2 ⟨⟨v, rfl, _⟩, hb⟩
      have K2 := Lib.hid (K1.out.call hb)
      clear hb r0 r1 r2 r3
      go_wp2
      go_ret2
      exact ⟨HR.out _, K2.out.below⟩
  · have hee : errE f = stE f := by unfold errE; rw [if_pos h1]
    have HR := Lib.hid (fun w' => Err18P.bad (lo := w.heap.size) (w' := w') hee h1)
    have t0 : (stE f != 0) = true := by rw [bne_iff_ne]; exact h1
    unfold facV at hof ⊢
    have HOF := Lib.hid hof
    clear hx hof hro hee h1 hst hsq
    generalize stE f = E at *
    go_enter Try.func19, Try.ntmps19
    go_wp2_with fail
    refine (HOF.out _ (K0.out.arg (.head _))).mono ?_
    rintro e w1 ⟨rfl, hb⟩
    have K1 := Lib.hid ((K0.out.call hb).alloc #[.int .i64 ii, .float .f64 sa, .float .f64 st1, .float .f64 sv1, .float .f64 sx1] 48)
    clear hb
    go_wp2
    go_ret2
    exact ⟨HR.out _, K1.out.below⟩
end Go.Proofs.Ytigacobphgeeaaa
