/- Contracts of the document's Miss of layer 17. -/
import Derived.Test.YtkhnoffhbfcgfaaVg9
import Derived.Test.YtkhnoffhbfcgfaaB9
import Derived.Test.YtkhnoffhbfcgfaaC9
set_option linter.unusedVariables false
namespace Go.Proofs.Ytkhnoffhbfcgfaa
open Go.RowKit Go.Shelf Lev

attribute [local go_sem] run_store_float run_add_all run_sub_all run_mul_all run_quo_all

def RmRel (f : Fct) (xs : List Nat) (i K : Nat) (d : Value) : Prop := ∃ b, d = .float .f64 b ∧ cn b = msD f xs i (K - i) ∧ b < 18446744073709551616

set_option maxRecDepth 100000 in
set_option maxHeartbeats 4000000 in
theorem rmiss_in (f : Fct) (A : Option Addr) (c : Nat) (xs : List Nat) (B : Option Addr) (cx : Nat) (w : World) (hx : SlArg w A f.xs c) (hy : SlArg w B xs cx) (hok : f.ok = true) (hl : (xs.length : Int) = f.C) :
    Calls Try.prog 17 #[facV f.C A f.xs.length c f.R f.T, .slice B xs.length cx] w fun e w' => e = .returned (.tuple #[.float .f64 (msV f xs), .int .i64 (msE f xs)]) ∧ Below w.heap.size w w' := by
  obtain ⟨k1, k2, kx, k4, k5, k6, k7, k8, ky⟩ := ok_len hok
  clear kx ky
  have hck := fun W h => rcheck_any f.C A f.xs c f.R f.T W h
  rw [show checkS f.C f.xs f.R f.T = true from hok] at hck
  have hgt := fun W i j h => rget_any f A c i j W h
  have K0 := Lib.hid ((((Keep.start w).more hy).more hx).alloc #[.int .i64 f.C, .slice A f.xs.length c, .int .i64 f.R, .int .i64 f.T] 24)
  unfold facV at hck hgt ⊢
  have HCK := Lib.hid hck; have HGT := Lib.hid hgt
  have HOK := Lib.hid hok; have HL := Lib.hid hl; have HX64 := Lib.hid hx.reads.1; have HY64 := Lib.hid hy.reads.1
  have t0 : ((xs.length : Int) != f.C) = false := by rw [bne_eq_false_iff_eq]; exact hl
  have l1 : (xs.length : Int) ≤ f.C := by omega
  have l2 : f.C ≤ (xs.length : Int) := by omega
  have l3 : xs.length ≤ 6 := by omega
  clear hx hy hok hck hgt hl
  go_enter Try.func17, Try.ntmps17
  go_wp2_with fail
  refine (HCK.out _ (K0.out.arg (.head _))).mono ?_
  rintro e w1 ⟨rfl, hb⟩
  have K1 := Lib.hid (K0.out.call hb)
  obtain ⟨a0, a1, a2, a3⟩ := ((K0.out.call hb).box (.head _)).c4
  clear hb
  go_wp2_with fail
  clear a0 a1 a2 a3
  go_loopw [6, 7] (fun s i wr => ∃ (k sb : Nat), (k : Int) ≤ f.C ∧ i = .int .i64 (k : Int) ∧ s = .float .f64 sb ∧ sb < 18446744073709551616 ∧ Below w1.heap.size w1 wr ∧ cn sb = msS f xs k) (fun _ i _ => f.C.toNat - (intOf i).toNat)
  case atStart => exact ⟨0, 0, by omega, rfl, rfl, by decide, Below.refl _ _, cn_msS f xs 0⟩
  case round =>
    obtain ⟨k, sb, hk, rfl, rfl, hs64, hL, hs⟩ := hrel
    have KR := Lib.hid (K1.out.call hL)
    obtain ⟨a0, a1, a2, a3⟩ := ((K1.out.call hL).box (.head _)).c4
    have HL2 := Lib.hid hL; have HS := Lib.hid hs
    clear hL hs
    by_cases hlt : (k : Int) < f.C
    · go_wp2_with fail
      refine (HGT.out _ (k : Int) f.C (KR.out.arg (.head _))).mono ?_
      rintro e w2 ⟨rfl, hb2⟩
      have L2 := Lib.hid (Below.chain HL2.out hb2)
      have K2 := Lib.hid (KR.out.call hb2)
      clear a0 a1 a2 a3
      obtain ⟨a0, a1, a2, a3⟩ := ((KR.out.call hb2).box (.head _)).c4
      clear hb2
      go_wp2_with fail
      clear a0 a1 a2 a3
      go_loopw [8, 9] (fun d kk wq => ∃ K : Nat, k ≤ K ∧ (K : Int) ≤ f.C ∧ kk = .int .i64 (K : Int) ∧ RmRel f xs k K d ∧ Below w2.heap.size w2 wq) (fun _ kk _ => f.C.toNat - (intOf kk).toNat)
      case atStart => exact ⟨k, Nat.le_refl _, by omega, rfl, ⟨_, rfl, by rw [Nat.sub_self]; exact cn_small (getS_small HOK.out _ _), getS_lt HX64.out _ _⟩, Below.refl _ _⟩
      case round =>
        obtain ⟨K, hkK, hKC, rfl, ⟨d, rfl, hd, hd64⟩, hLq⟩ := hrel
        have HD := Lib.hid hd; have HD64 := Lib.hid hd64
        have KQ := Lib.hid (K2.out.call hLq)
        have HLQ := Lib.hid hLq
        obtain ⟨a0, a1, a2, a3⟩ := ((K2.out.call hLq).box (.head _)).c4
        clear hd hd64 hLq
        by_cases hKlt : (K : Int) < f.C
        · have hKx : (K : Int) < (xs.length : Int) := by omega
          have hKx' : K < xs.length := by omega
          have hXW : ∀ Y, Below wr.heap.size wr Y → SlArg Y A f.xs c := fun Y h => (KQ.out.call h).arg (.head _)
          obtain ⟨bx, offx, hBx, _, hcx⟩ := (KQ.out.arg (.tail _ (.head _))).reads.2 (show 0 < xs.length by omega)
          subst hBx
          have hxc : wr.cell? ⟨bx, offx + K, none⟩ = some (.float .f64 (xs[K]?.getD 0)) := hcx K hKx'
          have hxW : ∀ Y, Below wr.heap.size wr Y → Y.cell? ⟨bx, offx + K, none⟩ = some (.float .f64 (xs[K]?.getD 0)) := fun Y h => by
            obtain ⟨bx2, offx2, e2, _, hc2⟩ := ((KQ.out.call h).arg (.tail _ (.head _))).reads.2 (show 0 < xs.length by omega)
            have e3 := Option.some.inj e2
            injection e3 with q1 q2 q3
            subst q1; subst q2
            exact hc2 K hKx'
          have hstep : msD f xs k (K + 1 - k) = arS .sub (msD f xs k (K - k)) (arS .mul (getS f (k : Int) (K : Int)) (xs[K]?.getD 0)) := by
            rw [show K + 1 - k = (K - k) + 1 from by omega]
            show arS .sub _ (arS .mul (getS f (k : Int) ((k + (K - k) : Nat) : Int)) (xs[k + (K - k)]?.getD 0)) = _
            rw [show k + (K - k) = K from by omega]
          have HST := Lib.hid hstep; have HXW := Lib.hid hXW; have HxW := Lib.hid hxW
          have HCN := Lib.hid (cn_msD HOK.out xs k (K - k))
          have HGK := Lib.hid (fun W h => HGT.out W (k : Int) (K : Int) h)
          clear hstep hcx hXW hxW
          generalize getS f (k : Int) (K : Int) = g at *
          generalize xs[K]?.getD 0 = x at *
          go_wp2_with fail
          go_region_with (go_at_call 26; (refine (HGK.out _ (HXW.out _ ?_)).mono ?_); (exact (by repeat (first | assumption | exact Below.refl _ _ | refine Below.drews ?_ | refine Below.chain ?_ (by assumption)))); rintro e w3 ⟨rfl, hb3⟩; have hx3 := HxW.out w3 (Below.chain (by repeat (first | assumption | exact Below.refl _ _ | refine Below.drews ?_ | refine Below.chain ?_ (by assumption))) hb3))
          all_goals
            have hq := HLQ.out
            go_wp2
            go_roundw
            case rel => exact ⟨K + 1, by omega, by omega, by go_num, ⟨_, rfl, by rw [cn_arV, HST.out]; exact arS_both .sub (by simp) HD.out (cn_arV _ _ _ _) HCN.out (cnArS _ _ _), arV_lt _ _ _ _⟩, by repeat (first | exact hq | refine Below.drewNs ?_ _ | refine Below.drews ?_ | refine Below.chain ?_ (by assumption))⟩
            case measure => simp [intOf]; omega
        · have hK : K - k = f.C.toNat - k := by omega
          have hmr : cn d = msR f xs k := by rw [HD.out, hK]; rfl
          have HMR := Lib.hid hmr
          have HMC := Lib.hid (show cn (msR f xs k) = msR f xs k from cn_msD HOK.out xs k _)
          clear hK hmr
          go_wp2
          go_roundw
          case rel => exact ⟨k + 1, _, by omega, by go_num, rfl, arV_lt _ _ _ _, by
            have hq := Below.chain L2.out HLQ.out
            repeat (first | exact hq | refine Below.drewNs ?_ _ | refine Below.drews ?_), by
            rw [cn_arV]; exact arS_both .add (by simp) HS.out (by rw [cn_arV]; exact arS_both .mul (by simp) HMR.out HMR.out HMC.out HMC.out) (cn_msS f xs k) (cnArS _ _ _)⟩
          case measure => simp [intOf]; omega
    · have hkC : (k : Int) = f.C := by omega
      have HKC := Lib.hid hkC
      clear hkC
      go_wp2_with fail
      refine (HGT.out _ f.C f.C (KR.out.arg (.head _))).mono ?_
      rintro e w2 ⟨rfl, hb2⟩
      have L2 := Lib.hid (Below.chain (KR.out.below) hb2)
      clear hb2 a0 a1 a2 a3
      have HSP := Lib.hid (fun b hb W => rsplit_any b hb W)
      have HG2 := Lib.hid (rho_sq HOK.out)
      have HG64 := Lib.hid (getS_lt HX64.out f.C f.C)
      have HTB := Lib.hid (show cn (stRest f) = stRest f from cn_fin (stT_bd HOK.out _).1)
      generalize getS f f.C f.C = g at *
      go_wp2_with fail
      have hT : cn (arV .add sb (arV .mul g g w2) (w2.drewN (arN .mul g g))) = msT f xs := by
        rw [cn_arV]
        have e1 : f.C.toNat = k := by have := HKC.out; omega
        unfold msT
        rw [e1]
        exact arS_both .add (by simp) HS.out (by rw [cn_arV, HG2.out]) (cn_msS f xs k) HTB.out
      have hr64 := arV_lt .add sb (arV .mul g g w2) (w2.drewN (arN .mul g g))
      have L5 := Lib.hid (Below.drewNs L2.out (arN .mul g g + arN .add sb (arV .mul g g w2)))
      generalize arV .add sb (arV .mul g g w2) (w2.drewN (arN .mul g g)) = r at *
      generalize w2.drewN (arN .mul g g + arN .add sb (arV .mul g g w2)) = w4 at *
      have hsp := fun W => HSP.out r hr64 W
      clear hr64 HSP HG2
      rcases ms_cases HOK.out HL.out hT with ⟨h1, he, hv⟩ | ⟨h1, h2, he, hv⟩ | ⟨h1, h2, he, hv⟩
      · rw [splitV_3 (kindS_nan h1)] at hsp
        have HE := Lib.hid he; have HV := Lib.hid hv; have HSP := Lib.hid hsp
        clear he hv h1 hT hsp
        refine (HSP.out _).mono ?_
        rintro e w5 ⟨rfl, rfl⟩
        go_wp2
        go_ret2
        exact ⟨by rw [HE.out, HV.out]; rfl, L5.out⟩
      · rw [splitV_2 (kindS_inf h2)] at hsp
        have HE := Lib.hid he; have HV := Lib.hid hv; have HSP := Lib.hid hsp
        clear he hv h1 h2 hT hsp
        refine (HSP.out _).mono ?_
        rintro e w5 ⟨rfl, rfl⟩
        go_wp2
        go_ret2
        exact ⟨by rw [HE.out, HV.out]; rfl, L5.out⟩
      · have HE := Lib.hid he; have HV := Lib.hid hv
        by_cases h0 : rg r = 0
        · rw [splitV_0 (kindS_zero h0)] at hsp
          have HSP := Lib.hid hsp
          clear he hv h1 h2 hT hsp h0
          refine (HSP.out _).mono ?_
          rintro e w5 ⟨rfl, rfl⟩
          go_wp2
          go_ret2
          exact ⟨by rw [HE.out, HV.out]; rfl, L5.out⟩
        · rw [splitV_1 (kindS_fin (by unfold fin; omega) h0)] at hsp
          have HSP := Lib.hid hsp
          clear he hv h1 h2 hT hsp h0
          refine (HSP.out _).mono ?_
          rintro e w5 ⟨rfl, rfl⟩
          go_wp2
          go_ret2
          exact ⟨by rw [HE.out, HV.out]; rfl, L5.out⟩

set_option maxRecDepth 100000 in
set_option maxHeartbeats 4000000 in
theorem rmiss_no (f : Fct) (A : Option Addr) (c : Nat) (xs : List Nat) (B : Option Addr) (cx : Nat) (w : World) (hx : SlArg w A f.xs c) (hok : f.ok = false) :
    Calls Try.prog 17 #[facV f.C A f.xs.length c f.R f.T, .slice B xs.length cx] w fun e w' => e = .returned (.tuple #[.float .f64 0, .int .i64 1]) ∧ Below w.heap.size w w' := by
  have hck := fun W h => rcheck_any f.C A f.xs c f.R f.T W h
  rw [show checkS f.C f.xs f.R f.T = false from hok] at hck
  have K0 := Lib.hid (((Keep.start w).more hx).alloc #[.int .i64 f.C, .slice A f.xs.length c, .int .i64 f.R, .int .i64 f.T] 24)
  unfold facV at hck ⊢
  have HCK := Lib.hid hck
  clear hx hok hck
  go_enter Try.func17, Try.ntmps17
  go_wp2_with fail
  refine (HCK.out _ (K0.out.arg (.head _))).mono ?_
  rintro e w1 ⟨rfl, hb⟩
  have K1 := Lib.hid (K0.out.call hb)
  obtain ⟨a0, a1, a2, a3⟩ := ((K0.out.call hb).box (.head _)).c4
  clear hb
  go_wp2_with fail
  go_ret2
  exact ⟨rfl, K1.out.below⟩

set_option maxRecDepth 100000 in
set_option maxHeartbeats 4000000 in
theorem rmiss_len (f : Fct) (A : Option Addr) (c : Nat) (xs : List Nat) (B : Option Addr) (cx : Nat) (w : World) (hx : SlArg w A f.xs c) (hok : f.ok = true) (hl : ¬ (xs.length : Int) = f.C) :
    Calls Try.prog 17 #[facV f.C A f.xs.length c f.R f.T, .slice B xs.length cx] w fun e w' => e = .returned (.tuple #[.float .f64 0, .int .i64 1]) ∧ Below w.heap.size w w' := by
  have hck := fun W h => rcheck_any f.C A f.xs c f.R f.T W h
  rw [show checkS f.C f.xs f.R f.T = true from hok] at hck
  have K0 := Lib.hid (((Keep.start w).more hx).alloc #[.int .i64 f.C, .slice A f.xs.length c, .int .i64 f.R, .int .i64 f.T] 24)
  unfold facV at hck ⊢
  have HCK := Lib.hid hck
  have t0 : ((xs.length : Int) != f.C) = true := by rw [bne_iff_ne]; exact hl
  clear hx hok hck
  go_enter Try.func17, Try.ntmps17
  go_wp2_with fail
  refine (HCK.out _ (K0.out.arg (.head _))).mono ?_
  rintro e w1 ⟨rfl, hb⟩
  have K1 := Lib.hid (K0.out.call hb)
  obtain ⟨a0, a1, a2, a3⟩ := ((K0.out.call hb).box (.head _)).c4
  clear hb
  go_wp2_with fail
  go_ret2
  exact ⟨rfl, K1.out.below⟩

theorem rmiss_any (f : Fct) (A : Option Addr) (c : Nat) (xs : List Nat) (B : Option Addr) (cx : Nat) (w : World) (hx : SlArg w A f.xs c) (hy : SlArg w B xs cx) :
    Calls Try.prog 17 #[facV f.C A f.xs.length c f.R f.T, .slice B xs.length cx] w fun e w' => e = .returned (.tuple #[.float .f64 (msV f xs), .int .i64 (msE f xs)]) ∧ Below w.heap.size w w' := by
  by_cases h : f.ok = true
  · by_cases hl : (xs.length : Int) = f.C
    · exact rmiss_in f A c xs B cx w hx hy h hl
    · have e : msE f xs = 1 := by unfold msE; rw [if_pos (Or.inr hl)]
      have v : msV f xs = 0 := by unfold msV; rw [e]; rfl
      rw [e, v]
      exact rmiss_len f A c xs B cx w hx h hl
  · have h' : f.ok = false := by simpa using h
    have e : msE f xs = 1 := by unfold msE; rw [if_pos (Or.inl h')]
    have v : msV f xs = 0 := by unfold msV; rw [e]; rfl
    rw [e, v]
    exact rmiss_no f A c xs B cx w hx h'

end Go.Proofs.Ytkhnoffhbfcgfaa
