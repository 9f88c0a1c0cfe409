/- The document's inverse: Cond. -/
import Derived.Test.YtigacobphgeeaaaXk9
set_option linter.unusedVariables false
namespace Go.Proofs.Ytigacobphgeeaaa
open Go.RowKit Go.Shelf Lev

attribute [local go_sem] run_store_float run_mul_all

set_option maxRecDepth 100000 in
set_option maxHeartbeats 4000000 in
theorem Cond18_any (f : Fct) (A : Option Addr) (c : Nat) (w : World) (hx : SlArg w A f.xs c) :
    Calls Try.prog 15 #[facV f.C A f.xs.length c f.R f.T] w fun e w' => e = .returned (.tuple #[.float .f64 (condV f), .int .i64 (condE f)]) ∧ Below w.heap.size w w' := by
  have K0 := Lib.hid (((Keep.start w).more hx).alloc #[.int .i64 f.C, .slice A f.xs.length c, .int .i64 f.R, .int .i64 f.T] 24)
  have hro := fun W h => rows18_any f A c W h
  by_cases hE : invE f = 0
  · have hok : f.ok = true := by
      unfold invE at hE
      cases h : f.ok
      · rw [if_pos h] at hE; exact absurd hE (by decide)
      · rfl
    have hc := ok_len hok
    obtain ⟨n, hn⟩ : ∃ n : Nat, f.C = (n : Int) := ⟨f.C.toNat, by omega⟩
    have hCn : f.C.toNat = n := by omega
    obtain ⟨_, hfw, _⟩ := invE_nw hE hn
    have hsq := fun W h => square18_any f A c W h hok n hn
    have hwh := fun W h => whole_any f A c W h hok n hn
    have HONE := Lib.hid (fun W B cB b o k h => one18_any (gS f) n (n + 1) (by omega) (by omega) B cB b o k (gS f) W h (fun _ _ _ _ => rfl) (fun i j _ _ => gS_fin hok i j))
    have HONW := Lib.hid (fun W B cB b k (M : Nat → Nat → Nat) h (hM : ∀ i j, i ≤ j → j < n → cn (M i j) = wS (gS f) i j) => one18_any (wS (gS f)) n n (by omega) (by omega) B cB b (fun _ => 0) k M W h (fun i j hij hj => cn_back (hM i j hij hj) (hfw i j hij hj)) hfw)
    have hcc : condC f = arS .mul (oneS (gS f) n) (oneS (wS (gS f)) n) := by unfold condC; rw [hCn]
    have hce : condE f = if wildS (condC f) = true then 2 else 0 := by unfold condE; rw [if_neg (by rw [hE]; decide)]
    have hcv : condV f = if condE f = 0 then condC f else 0 := rfl
    unfold Rows18P at hro
    rw [hE] at hro
    unfold facV at hro hsq hwh ⊢
    rw [hn] at hro hsq hwh K0 ⊢
    have HRO := Lib.hid hro; have HSQ := Lib.hid hsq; have HWH := Lib.hid hwh; have HCC := Lib.hid hcc; have HCE := Lib.hid hce; have HCV := Lib.hid hcv
    generalize condE f = E at *
    generalize condV f = V at *
    generalize condC f = C at *
    generalize oneS (gS f) n = p at *
    generalize oneS (wS (gS f)) n = q at *
    clear hx hro hsq hwh hcc hce hcv hE hc hfw
    go_enter Try.func15, Try.ntmps15
    go_wp2_with fail
    refine (HRO.out _ (K0.out.arg (.head _))).mono ?_
    rintro e w1 ⟨⟨v, rfl, _⟩, hb⟩
    have K1 := Lib.hid (K0.out.call hb)
    obtain ⟨r0, r1, r2, r3⟩ := (K1.out.box (.head _)).c4
    clear hb
    go_wp2_with fail
    go_cut [6] (fun s6 wx => ∃ v, s6 = .float .f64 v ∧ v < 18446744073709551616 ∧ cn v = C ∧ Below w1.heap.size w1 wx)
    case first =>
      have HXA := Lib.hid (fun Y (h : Below w1.heap.size w1 Y) => (K1.out.call h).arg (.head _))
      have HXW := Lib.hid (fun Y (h : Below w1.heap.size w1 Y) => ((K1.out.call h).box (.head _)).c4)
      go_region_with (first
        | (go_at_call 40; (refine (HSQ.out _ (HXA.out _ ?_)).mono ?_); (exact (by repeat (first | assumption | exact Below.refl _ _ | refine Below.drews ?_ | refine Below.chain ?_ (by assumption)))); rintro e w3 ⟨⟨B, ⟨cB, rfl⟩, b, o, k, hm⟩, hb3⟩; have hb4 : Below w1.heap.size w1 w3 := (by repeat (first | assumption | exact Below.refl _ _ | refine Below.chain ?_ (by assumption) | refine Below.drews ?_)); obtain ⟨y0, y1, y2, y3⟩ := HXW.out w3 hb4)
        | (go_at_call 39; (with_reducible refine (HONE.out _ B cB b o k ?_).mono ?_); (exact hm); rintro e w4 ⟨rfl, rfl⟩)
        | (go_at_call 34; (refine (HWH.out _ (HXA.out _ ?_)).mono ?_); (exact (by repeat (first | assumption | exact Below.refl _ _ | refine Below.drews ?_ | refine Below.chain ?_ (by assumption)))); rintro e w5 ⟨⟨B2, cB2, rfl, _, b2, M, hwm, hM, _⟩, hb5⟩; have hb6 : Below w1.heap.size w1 w5 := (by repeat (first | assumption | exact Below.refl _ _ | refine Below.chain ?_ (by assumption) | refine Below.drews ?_)); obtain ⟨z0, z1, z2, z3⟩ := HXW.out w5 hb6)
        | (go_at_call 39; go_loud (refine (HONW.out _ B2 cB2 b2 _ M hwm.rm.g hM).mono ?_); rintro e w6 ⟨rfl, rfl⟩))
      all_goals
        go_wp2_with fail
        go_meet
        refine ⟨_, rfl, arV_lt _ _ _ _, ?_, ?_⟩
        · rw [cn_arV, HCC.out]
        · repeat (first | assumption | exact Below.refl _ _ | refine Below.drews ?_ | refine Below.drewNs ?_ _ | refine Below.chain ?_ (by assumption))
    case rest =>
      obtain ⟨v, rfl, hv64, hcn, hbl⟩ := hcut
      have HNU := Lib.hid (fun W => number_any v hv64 W)
      have hwc : wildS v = wildS C := by rw [wild_cn, hcn]
      rw [hwc] at HNU
      have HCN := Lib.hid hcn
      have HKN := Lib.hid (K1.out.call hbl).below
      clear hcn hv64 hwc hbl r0 r1 r2 r3
      cases hwd : wildS C
      · rw [hwd] at HNU
        have hE0 : E = 0 := by rw [HCE.out, hwd]; rfl
        have hV0 : V = v := by
          rw [HCV.out, if_pos hE0]
          refine (cn_back HCN.out ?_).symm
          unfold wildS at hwd
          rw [decide_eq_false_iff_not] at hwd
          omega
        have HE0 := Lib.hid (And.intro hE0 hV0)
        clear hwd hE0 hV0
        go_wp2_with (go_at_call 35; refine (HNU.out _).mono ?_; rintro e w' ⟨rfl, rfl⟩)
        go_ret2
        exact ⟨by rw [HE0.out.1, HE0.out.2]; rfl, HKN.out⟩
      · rw [hwd] at HNU
        have hE0 : E = 2 := by rw [HCE.out, hwd]; rfl
        have hV0 : V = 0 := by rw [HCV.out, if_neg (by rw [hE0]; decide)]
        have HE0 := Lib.hid (And.intro hE0 hV0)
        clear hwd hE0 hV0
        go_wp2_with (go_at_call 35; refine (HNU.out _).mono ?_; rintro e w' ⟨rfl, rfl⟩)
        go_ret2
        exact ⟨by rw [HE0.out.1, HE0.out.2]; rfl, HKN.out⟩
  · have hce : condE f = invE f := by unfold condE; rw [if_pos hE]
    have hcv : condV f = 0 := by unfold condV; rw [hce, if_neg hE]
    rw [hce, hcv]
    have t0 : (invE f != 0) = true := by rw [bne_iff_ne]; exact hE
    unfold Rows18P at hro
    unfold facV at hro ⊢
    have HRO := Lib.hid hro
    clear hx hro hce hcv hE
    generalize invE f = E at *
    go_enter Try.func15, Try.ntmps15
    go_wp2_with fail
    refine (HRO.out _ (K0.out.arg (.head _))).mono ?_
    rintro e w1 ⟨⟨v, rfl, _⟩, hb⟩
    have K1 := Lib.hid (K0.out.call hb)
    clear hb
    go_wp2
    go_ret2
    exact ⟨rfl, K1.out.below⟩
end Go.Proofs.Ytigacobphgeeaaa
