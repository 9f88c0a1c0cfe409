/- Contracts of package stats: Miss. -/
import Derived.Test.YtkhnoffhbfcgfaaVf9
import Derived.Test.YtkhnoffhbfcgfaaC9
import Derived.Deep.RegionWith
set_option linter.unusedVariables false
namespace Go.Proofs.Ytkhnoffhbfcgfaa
open Go.RowKit Go.Shelf Lev

attribute [local go_sem] run_store_float run_add_all run_sub_all run_mul_all run_quo_all

theorem cn_fin {x : Nat} (h : fin x) : cn x = x := cn_num (by unfold fin at h; omega)
theorem rho_sq {f : Fct} (h : f.ok = true) : arS .mul (getS f f.C f.C) (getS f f.C f.C) = stRest f := by
  have hc := ok_len h
  have e : stRest f = fmul (getS f f.C f.C) (getS f f.C f.C) := by unfold stRest stT; rw [show ((f.C.toNat : Nat) : Int) = f.C from by omega]
  have hq := sq_bd (getS_small h f.C f.C)
  have h1 : floatBits .mul .f64 (getS f f.C f.C) (getS f f.C f.C) = some (fmul (getS f f.C f.C) (getS f f.C f.C)) := hq.1
  rw [e]
  unfold arS
  rw [h1]
  exact cn_fin hq.2.1
theorem drewMany {w W W' : World} {n m : Nat} (h : W = w.drewN n) (h2 : W' = W.drewN m) : W' = w.drewN (n + m) := by rw [h2, h, World.drewN_drewN]
theorem ms_cases {f : Fct} {xs : List Nat} {r : Nat} (hok : f.ok = true) (hl : (xs.length : Int) = f.C) (hr : cn r = msT f xs) :
    (INF < rg r ∧ msE f xs = 2 ∧ msV f xs = 0) ∨ (¬ INF < rg r ∧ rg r = INF ∧ msE f xs = 2 ∧ msV f xs = 0) ∨ (¬ INF < rg r ∧ ¬ rg r = INF ∧ msE f xs = 0 ∧ msV f xs = r) := by
  have hn : ¬ (f.ok = false ∨ (xs.length : Int) ≠ f.C) := by rw [hok]; simp [hl]
  by_cases h1 : INF < rg r
  · left
    have h2 : INF ≤ rg (msT f xs) := by rw [← hr, cn_nan h1]; decide
    have e : msE f xs = 2 := by unfold msE; rw [if_neg hn, if_pos h2]
    exact ⟨h1, e, by unfold msV; rw [e]; rfl⟩
  · right
    have hr' : r = msT f xs := by rw [← hr, cn_num h1]
    by_cases h2 : rg r = INF
    · left
      have h3 : INF ≤ rg (msT f xs) := by rw [← hr', h2]; exact Nat.le_refl _
      have e : msE f xs = 2 := by unfold msE; rw [if_neg hn, if_pos h3]
      exact ⟨h1, h2, e, by unfold msV; rw [e]; rfl⟩
    · right
      have h3 : ¬ INF ≤ rg (msT f xs) := by rw [← hr']; omega
      have e : msE f xs = 0 := by unfold msE; rw [if_neg hn, if_neg h3]
      exact ⟨h1, h2, e, by unfold msV; rw [e]; exact hr'.symm⟩
def MsRel (f : Fct) (xs : List Nat) (i K : Nat) (d : Value) : Prop := ∃ b, d = .float .f64 b ∧ cn b = msD f xs i (K - i) ∧ b < 18446744073709551616

set_option maxRecDepth 100000 in
set_option maxHeartbeats 4000000 in
theorem smiss_in (f : Fct) (A : Option Addr) (c : Nat) (xs : List Nat) (B : Option Addr) (cx : Nat) (w : World) (hx : SlArg w A f.xs c) (hy : SlArg w B xs cx) (hok : f.ok = true) (hl : (xs.length : Int) = f.C) :
    Calls Try.prog 16 #[facV f.C A f.xs.length c f.R f.T, .slice B xs.length cx] w fun e w' => e = .returned (.tuple #[.float .f64 (msV f xs), .int .i64 (msE f xs)]) ∧ Below w.heap.size w w' := by
  obtain ⟨k1, k2, kx, k4, k5, k6, k7, k8, ky⟩ := ok_len hok
  clear kx ky
  have hck := fun W h => check_any f.C A f.xs c f.R f.T W h
  rw [show checkS f.C f.xs f.R f.T = true from hok] at hck
  have hgt := fun W h => get_any f A c f.C f.C W h
  have hln := fun W i h => line_any f A c i W h
  have K0 := Lib.hid ((((Keep.start w).more hy).more hx).alloc #[.int .i64 f.C, .slice A f.xs.length c, .int .i64 f.R, .int .i64 f.T] 24)
  unfold facV at hck hgt hln ⊢
  have HCK := Lib.hid hck; have HGT := Lib.hid hgt; have HLN := Lib.hid hln
  have HOK := Lib.hid hok; have HL := Lib.hid hl; have HX64 := Lib.hid hx.reads.1
  have t0 : ((xs.length : Int) != f.C) = false := by rw [bne_eq_false_iff_eq]; exact hl
  have l1 : (xs.length : Int) ≤ f.C := by omega
  have l2 : f.C ≤ (xs.length : Int) := by omega
  have l3 : xs.length ≤ 6 := by omega
  clear hx hy hok hck hgt hln hl
  go_enter Try.func16, Try.ntmps16
  go_wp2_with fail
  refine (HCK.out _ (K0.out.arg (.head _))).mono ?_
  rintro e w1 ⟨rfl, hb⟩
  have K1 := Lib.hid (K0.out.call hb)
  obtain ⟨a0, a1, a2, a3⟩ := ((K0.out.call hb).box (.head _)).c4
  have HZ := Lib.hid ((K0.out.call hb).box (.head _)).lt
  clear hb
  go_wp2_with fail
  clear a0 a1 a2 a3
  go_loopw [24] (fun i wr => ∃ (k s : Nat), k ≤ xs.length ∧ i = .int .i64 (k : Int) ∧ Bk wr w1.heap.size 59 #[.float .f64 s, .float .f64 0] ∧ Below w1.heap.size w1 wr ∧ cn s = msS f xs k) (fun i _ => xs.length - (intOf i).toNat)
  case atStart => exact ⟨0, 0, by omega, rfl, Bk.new _ _ _, (Below.refl _ _).alloc (Nat.le_refl _) _, cn_msS f xs 0⟩
  case round =>
    obtain ⟨k, s, hk, rfl, hB, hL, hs⟩ := hrel
    have KR := Lib.hid (K1.out.call hL)
    obtain ⟨a0, a1, a2, a3⟩ := ((K1.out.call hL).box (.head _)).c4
    have HLZ := Lib.hid hB.lt
    have HB := Lib.hid hB; have HL2 := Lib.hid hL; have HS := Lib.hid hs
    clear hB hL hs
    by_cases hlt : (k : Int) < (xs.length : Int)
    · have hh : hasS f (k : Int) = true := hasS_iff.2 ⟨HOK.out, by omega, by omega⟩
      have hlen := lineS_length hh
      have hgl := fun j (hj : j < (f.C + 1).toNat) => lineS_get hh hj
      have HLEN := Lib.hid hlen; have HGL := Lib.hid hgl
      clear hh hlen hgl
      go_wp2_with fail
      refine (HLN.out _ (k : Int) (KR.out.arg (.head _))).mono ?_
      rintro e w2 ⟨⟨v, rfl, A2, c2, rfl, hs2, _⟩, hb2⟩
      have B2 := Lib.hid (HB.out.below hb2 HLZ.out)
      have L2 := Lib.hid (HL2.out.trans (hb2.mono (Nat.le_of_lt HLZ.out)))
      have k2' := (KR.out.call hb2).more hs2
      have K2 := Lib.hid k2'
      clear a0 a1 a2 a3
      obtain ⟨a0, a1, a2, a3⟩ := (k2'.box (.head _)).c4
      clear hb2 k2'
      rw [HLEN.out]
      obtain ⟨N, hN⟩ : ∃ N, N = (f.C + 1).toNat := ⟨_, rfl⟩
      have n1 : (f.C : Int) < (N : Int) := by omega
      have HN := Lib.hid hN
      rw [← hN]
      obtain ⟨C, hC⟩ : ∃ C : Nat, (C : Int) = f.C := ⟨f.C.toNat, by omega⟩
      have n2 : C < N := by omega
      have HC := Lib.hid hC
      obtain ⟨br, offr, rfl, _, hcr⟩ := hs2.reads.2 (by rw [HLEN.out]; omega)
      have HCR := Lib.hid hcr
      have hcC : w2.cell? ⟨br, offr + C, none⟩ = some (.float .f64 (getS f (k : Int) f.C)) := by
        have h := hcr C (by rw [HLEN.out]; omega)
        rw [HGL.out C (by omega), hC] at h; exact h
      have HS2 := Lib.hid hs2
      have hcC' := hcC
      clear hs2 hcr hN hC
      have hix : w2.cell? ⟨br, offr + f.C.toNat, none⟩ = some (.float .f64 (getS f (k : Int) f.C)) := by
        have : f.C.toNat = C := by have := HC.out; omega
        rw [this]; exact hcC
      clear hcC hcC'
      go_wp2_with fail
      clear hix
      have k0 : (k : Int) < f.C := by omega
      go_loopw [9, 10] (fun d kk wq => ∃ K n : Nat, k ≤ K ∧ (K : Int) ≤ f.C ∧ kk = .int .i64 (K : Int) ∧ MsRel f xs k K d ∧ wq = w2.drewN n) (fun _ kk _ => f.C.toNat - (intOf kk).toNat)
      case atStart => exact ⟨k, 0, Nat.le_refl _, by omega, rfl, ⟨_, rfl, by rw [Nat.sub_self]; exact cn_small (getS_small HOK.out _ _), getS_lt HX64.out _ _⟩, rfl⟩
      case round =>
        obtain ⟨K, n, hkK, hKC, rfl, ⟨d, rfl, hd, hd64⟩, rfl⟩ := hrel
        have HD := Lib.hid hd; have HD64 := Lib.hid hd64
        clear hd hd64
        by_cases hKlt : (K : Int) < f.C
        · have hKN : K < N := by omega
          have hKN' : (K : Int) < (N : Int) := by omega
          have hKx : (K : Int) < (xs.length : Int) := by omega
          have hKx' : K < xs.length := by omega
          obtain ⟨W, hW⟩ : ∃ W, W = w2.drewN n := ⟨_, rfl⟩
          have hrow : W.cell? ⟨br, offr + K, none⟩ = some (.float .f64 (getS f (k : Int) (K : Int))) := by
            rw [hW, World.cell?_drewN, HCR.out K (by rw [HLEN.out]; have := HN.out; omega), HGL.out K (by have := HN.out; omega)]
          obtain ⟨bx, offx, rfl, _, hcx⟩ := (K2.out.arg (.tail _ (.tail _ (.head _)))).reads.2 (show 0 < xs.length by omega)
          have hxc : W.cell? ⟨bx, offx + K, none⟩ = some (.float .f64 (xs[K]?.getD 0)) := by
            rw [hW, World.cell?_drewN]; exact hcx K hKx'
          have b0 : W.cell? ⟨w.heap.size, 0, none⟩ = some (.int .i64 f.C) := by rw [hW, World.cell?_drewN]; exact a0
          rw [← hW]
          have HW := Lib.hid hW
          have hstep : msD f xs k (K + 1 - k) = arS .sub (msD f xs k (K - k)) (arS .mul (getS f (k : Int) (K : Int)) (xs[K]?.getD 0)) := by
            rw [show K + 1 - k = (K - k) + 1 from by omega]
            show arS .sub _ (arS .mul (getS f (k : Int) ((k + (K - k) : Nat) : Int)) (xs[k + (K - k)]?.getD 0)) = _
            rw [show k + (K - k) = K from by omega]
          have HST := Lib.hid hstep
          have HCN := Lib.hid (cn_msD HOK.out xs k (K - k))
          clear hW hcx hstep
          generalize getS f (k : Int) (K : Int) = g at *
          generalize xs[K]?.getD 0 = x at *
          go_wp2_with fail
          go_region_with (fail)
          all_goals
            go_wp2
            go_roundw
            case rel => exact ⟨K + 1, _, by omega, by omega, by go_num, ⟨_, rfl, by rw [cn_arV, HST.out]; exact arS_both .sub (by simp) HD.out (cn_arV _ _ _ _) HCN.out (cnArS _ _ _), arV_lt _ _ _ _⟩, drewMany HW.out rfl⟩
            case measure => simp [intOf]; omega
        · have hK : K - k = f.C.toNat - k := by omega
          have hmr : cn d = msR f xs k := by rw [HD.out, hK]; rfl
          have HMR := Lib.hid hmr
          have HMC := Lib.hid (show cn (msR f xs k) = msR f xs k from cn_msD HOK.out xs k _)
          have hBn := B2.out.drewN n
          have HBn := Lib.hid hBn
          have had := sadd_cn w1.heap.size s d (w2.drewN n) (hBn.cell 0) (hBn.frozen 0)
          have HAD := Lib.hid had
          clear hK hmr hBn had
          go_wp2_with fail
          refine HAD.out.mono ?_
          rintro e w3 ⟨rfl, r, m, rfl, hr, hr64⟩
          have B4 := Lib.hid (((HBn.out.drewN m).set 0 (.float .f64 r)))
          have L4 := Lib.hid (((L2.out.drewN n).drewN m).setCell (p := ⟨w1.heap.size, 0, none⟩) (Nat.le_refl _) (.float .f64 r))
          have HR := Lib.hid (show cn r = msS f xs (k + 1) from by rw [hr]; exact arS_both .add (by simp) HS.out (by rw [cnArS]; exact arS_both .mul (by simp) HMR.out HMR.out HMC.out HMC.out) (cn_msS f xs k) (cnArS _ _ _))
          clear hr hr64
          go_wp2
          go_roundw
          case rel => exact ⟨k + 1, r, by omega, by go_num, by have := B4.out; rw [World.drewN_drewN] at this; simpa using this, by have := L4.out; rw [World.drewN_drewN] at this; exact this, HR.out⟩
          case measure => simp [intOf]; omega
    · have hkC : (k : Int) = f.C := by omega
      have HKC := Lib.hid hkC
      clear hkC
      go_wp2_with fail
      refine (HGT.out _ (KR.out.arg (.head _))).mono ?_
      rintro e w2 ⟨rfl, hb2⟩
      have B2 := HB.out.below hb2 HLZ.out
      have L2 := Lib.hid (HL2.out.trans (hb2.mono (Nat.le_of_lt HLZ.out)))
      have hend := send_cn w1.heap.size s (getS f f.C f.C) _ _ w2 B2
      have HEND := Lib.hid hend; have HB2 := Lib.hid B2
      clear hb2 B2 hend a0 a1 a2 a3
      go_wp2_with fail
      refine HEND.out.mono ?_
      rintro e w3 ⟨rfl, q, r, n, m, rfl, hr, hr64⟩
      have hT : cn r = msT f xs := by
        rw [hr]
        have e1 : f.C.toNat = k := by have := HKC.out; omega
        unfold msT
        rw [e1]
        exact arS_both .add (by simp) HS.out (by rw [cnArS]; exact rho_sq HOK.out) (cn_msS f xs k) (cn_fin (stT_bd HOK.out _).1)
      have B3 := ((((HB2.out.drewN n).set 1 (.float .f64 q)).drewN m).set 0 (.float .f64 r))
      have L3 := (((L2.out.drewN n).setCell (p := ⟨w1.heap.size, 1, none⟩) (Nat.le_refl _) (.float .f64 q)).drewN m).setCell (p := ⟨w1.heap.size, 0, none⟩) (Nat.le_refl _) (.float .f64 r)
      have c0 : ((((w2.drewN n).setCell ⟨w1.heap.size, 1, none⟩ (.float .f64 q)).drewN m).setCell ⟨w1.heap.size, 0, none⟩ (.float .f64 r)).cell? ⟨w1.heap.size, 0, none⟩ = some (.float .f64 r) := B3.cell 0
      generalize (((w2.drewN n).setCell ⟨w1.heap.size, 1, none⟩ (.float .f64 q)).drewN m).setCell ⟨w1.heap.size, 0, none⟩ (.float .f64 r) = w4 at *
      have L5 := Lib.hid (Below.chain K1.out.below L3)
      have HT := Lib.hid hT
      have HNN := Lib.hid (fun W => isNaN_any r W)
      have HIF := Lib.hid (fun W => isInf_any r hr64 W)
      clear B3 L3 hr hr64 hT
      have hcases : (INF < rg r ∧ msE f xs = 2 ∧ msV f xs = 0) ∨ (¬ INF < rg r ∧ rg r = INF ∧ msE f xs = 2 ∧ msV f xs = 0) ∨ (¬ INF < rg r ∧ ¬ rg r = INF ∧ msE f xs = 0 ∧ msV f xs = r) := ms_cases HOK.out HL.out HT.out
      rcases hcases with ⟨h1, he, hv⟩ | ⟨h1, h2, he, hv⟩ | ⟨h1, h2, he, hv⟩
      · have HE := Lib.hid he; have HV := Lib.hid hv
        have d1 : decide (INF < rg r) = true := by simp [h1]
        clear he hv h1
        go_wp2_with ((go_at_call 39; refine (HNN.out _).mono ?_; rintro e w' ⟨rfl, rfl⟩))
        go_ret2
        exact ⟨by rw [HE.out, HV.out]; rfl, L5.out⟩
      · have HE := Lib.hid he; have HV := Lib.hid hv
        have d1 : decide (INF < rg r) = false := by simp [h1]
        have d2 : decide (rg r = INF) = true := by simp [h2]
        clear he hv h1 h2
        go_wp2_with (first | (go_at_call 39; refine (HNN.out _).mono ?_; rintro e w' ⟨rfl, rfl⟩) | (go_at_call 19; refine (HIF.out _).mono ?_; rintro e w' ⟨rfl, rfl⟩))
        go_ret2
        exact ⟨by rw [HE.out, HV.out]; rfl, L5.out⟩
      · have HE := Lib.hid he; have HV := Lib.hid hv
        have d1 : decide (INF < rg r) = false := by simp [h1]
        have d2 : decide (rg r = INF) = false := by simp [h2]
        clear he hv h1 h2
        go_wp2_with (first | (go_at_call 39; refine (HNN.out _).mono ?_; rintro e w' ⟨rfl, rfl⟩) | (go_at_call 19; refine (HIF.out _).mono ?_; rintro e w' ⟨rfl, rfl⟩))
        go_ret2
        exact ⟨by rw [HE.out, HV.out]; rfl, L5.out⟩

set_option maxRecDepth 100000 in
set_option maxHeartbeats 4000000 in
theorem smiss_no (f : Fct) (A : Option Addr) (c : Nat) (xs : List Nat) (B : Option Addr) (cx : Nat) (w : World) (hx : SlArg w A f.xs c) (hok : f.ok = false) :
    Calls Try.prog 16 #[facV f.C A f.xs.length c f.R f.T, .slice B xs.length cx] w fun e w' => e = .returned (.tuple #[.float .f64 0, .int .i64 1]) ∧ Below w.heap.size w w' := by
  have hck := fun W h => check_any f.C A f.xs c f.R f.T W h
  rw [show checkS f.C f.xs f.R f.T = false from hok] at hck
  have K0 := Lib.hid (((Keep.start w).more hx).alloc #[.int .i64 f.C, .slice A f.xs.length c, .int .i64 f.R, .int .i64 f.T] 24)
  unfold facV at hck ⊢
  have HCK := Lib.hid hck
  clear hx hok hck
  go_enter Try.func16, Try.ntmps16
  go_wp2_with fail
  refine (HCK.out _ (K0.out.arg (.head _))).mono ?_
  rintro e w1 ⟨rfl, hb⟩
  have K1 := Lib.hid (K0.out.call hb)
  obtain ⟨a0, a1, a2, a3⟩ := ((K0.out.call hb).box (.head _)).c4
  clear hb
  go_wp2_with fail
  go_ret2
  exact ⟨rfl, K1.out.below⟩

set_option maxRecDepth 100000 in
set_option maxHeartbeats 4000000 in
theorem smiss_len (f : Fct) (A : Option Addr) (c : Nat) (xs : List Nat) (B : Option Addr) (cx : Nat) (w : World) (hx : SlArg w A f.xs c) (hok : f.ok = true) (hl : ¬ (xs.length : Int) = f.C) :
    Calls Try.prog 16 #[facV f.C A f.xs.length c f.R f.T, .slice B xs.length cx] w fun e w' => e = .returned (.tuple #[.float .f64 0, .int .i64 1]) ∧ Below w.heap.size w w' := by
  have hck := fun W h => check_any f.C A f.xs c f.R f.T W h
  rw [show checkS f.C f.xs f.R f.T = true from hok] at hck
  have K0 := Lib.hid (((Keep.start w).more hx).alloc #[.int .i64 f.C, .slice A f.xs.length c, .int .i64 f.R, .int .i64 f.T] 24)
  unfold facV at hck ⊢
  have HCK := Lib.hid hck
  have t0 : ((xs.length : Int) != f.C) = true := by rw [bne_iff_ne]; exact hl
  clear hx hok hck
  go_enter Try.func16, Try.ntmps16
  go_wp2_with fail
  refine (HCK.out _ (K0.out.arg (.head _))).mono ?_
  rintro e w1 ⟨rfl, hb⟩
  have K1 := Lib.hid (K0.out.call hb)
  obtain ⟨a0, a1, a2, a3⟩ := ((K0.out.call hb).box (.head _)).c4
  clear hb
  go_wp2_with fail
  go_ret2
  exact ⟨rfl, K1.out.below⟩

theorem smiss_any (f : Fct) (A : Option Addr) (c : Nat) (xs : List Nat) (B : Option Addr) (cx : Nat) (w : World) (hx : SlArg w A f.xs c) (hy : SlArg w B xs cx) :
    Calls Try.prog 16 #[facV f.C A f.xs.length c f.R f.T, .slice B xs.length cx] w fun e w' => e = .returned (.tuple #[.float .f64 (msV f xs), .int .i64 (msE f xs)]) ∧ Below w.heap.size w w' := by
  by_cases h : f.ok = true
  · by_cases hl : (xs.length : Int) = f.C
    · exact smiss_in f A c xs B cx w hx hy h hl
    · have e : msE f xs = 1 := by unfold msE; rw [if_pos (Or.inr hl)]
      have v : msV f xs = 0 := by unfold msV; rw [e]; rfl
      rw [e, v]
      exact smiss_len f A c xs B cx w hx h hl
  · have h' : f.ok = false := by simpa using h
    have e : msE f xs = 1 := by unfold msE; rw [if_pos (Or.inl h')]
    have v : msV f xs = 0 := by unfold msV; rw [e]; rfl
    rw [e, v]
    exact smiss_no f A c xs B cx w hx h'

end Go.Proofs.Ytkhnoffhbfcgfaa
