/- Contract of package inverse: solve. -/
import Derived.Test.YtigacobphgeeaaaXa9
import Derived.Deep.DeepCutAuto
import Derived.Deep.RegionHeld3
set_option linter.unusedVariables false
namespace Go.Proofs.Ytigacobphgeeaaa
open Go.RowKit Go.Shelf Lev

/-- What solve has done: the rows from lo to j of column j. -/
structure SInv (g : Nat → Nat → Nat) (n j H Bu Bw : Nat) (bu ou ku bw kw : Nat → Nat) (MU MW : Nat → Nat → Nat) (w : World) (lo : Nat) (wx : World) (M : Nat → Nat → Nat) : Prop where
  wm : WMat wx Bw n bw kw M
  rm : RMat wx Bu n bu ou ku MU
  oth : ∀ i k, i < n → k < n → k ≠ j → M i k = MW i k
  don : ∀ i, lo ≤ i → i ≤ j → cn (M i j) = wS g i j
  low : ∀ i, i < n → j < i → M i j = MW i j
  bel : Below H w wx
  siz : wx.heap.size = w.heap.size
theorem SInv.drewN {g : Nat → Nat → Nat} {n j H Bu Bw : Nat} {bu ou ku bw kw : Nat → Nat} {MU MW : Nat → Nat → Nat} {w : World} {lo : Nat} {wx : World} {M : Nat → Nat → Nat} (h : SInv g n j H Bu Bw bu ou ku bw kw MU MW w lo wx M) (m : Nat) : SInv g n j H Bu Bw bu ou ku bw kw MU MW w lo (wx.drewN m) M :=
  ⟨h.wm.drewN m, h.rm.drewN m, h.oth, h.don, h.low, h.bel.drewN m, h.siz⟩
theorem SInv.set {g : Nat → Nat → Nat} {n j H Bu Bw : Nat} {bu ou ku bw kw : Nat → Nat} {MU MW : Nat → Nat → Nat} {w : World} {lo : Nat} {wx : World} {M : Nat → Nat → Nat} (h : SInv g n j H Bu Bw bu ou ku bw kw MU MW w lo wx M) (hjn : j < n)
    (hd1 : ∀ i, i < n → Bu ≠ bw i) (hd2 : ∀ i i', i < n → i' < n → bu i ≠ bw i') (hH : ∀ i, i < n → H ≤ bw i) {i v : Nat} (hi : lo = i + 1) (hij : i ≤ j) (hv : v < 18446744073709551616) (hc : cn v = wS g i j) :
    SInv g n j H Bu Bw bu ou ku bw kw MU MW w i (wx.setCell ⟨bw i, j, none⟩ (.float .f64 v)) (upd M i j v) := by
  refine ⟨h.wm.set (by omega) hjn hv, h.rm.other (hd1 i (by omega)) (fun a ha => hd2 a i ha (by omega)) _, fun a k ha hk hne => ?_, fun a h1 h2 => ?_, fun a ha h1 => ?_, h.bel.setCell (hH i (by omega)) _, ?_⟩
  · rw [upd_ne _ _ (.inr hne)]; exact h.oth a k ha hk hne
  · by_cases e : a = i
    · subst e; rw [upd_at]; exact hc
    · rw [upd_ne _ _ (.inl e)]; exact h.don a (by omega) h2
  · rw [upd_ne _ _ (.inl (by omega))]; exact h.low a ha h1
  · show (wx.setCell _ _).heap.size = _
    rw [← h.siz]; simp [World.setCell]

attribute [local go_sem] run_store_float run_add_all run_sub_all run_mul_all run_quo_all

set_option maxRecDepth 100000 in
set_option maxHeartbeats 4000000 in
theorem solve_any (g : Nat → Nat → Nat) (n j : Nat) (hj : j < n) (hn : n ≤ 6) (H Bu Bw : Nat) (bu ou ku bw kw : Nat → Nat) (MU MW : Nat → Nat → Nat) (cu cw : Nat) (w : World)
    (hu : RMat w Bu n bu ou ku MU) (hw : WMat w Bw n bw kw MW) (hg : ∀ i k, i ≤ k → k < n → cn (MU i k) = g i k) (hgc : ∀ i k, i ≤ k → k < n → cn (g i k) = g i k)
    (hd1 : ∀ i, i < n → Bu ≠ bw i) (hd2 : ∀ i i', i < n → i' < n → bu i ≠ bw i') (hH : ∀ i, i < n → H ≤ bw i) :
    Calls Try.prog 64 #[.slice (some ⟨Bu, 0, none⟩) n cu, .slice (some ⟨Bw, 0, none⟩) n cw, .int .i64 (j : Int)] w fun e w' => e = .returned (.tuple #[]) ∧
      ∃ M, SInv g n j H Bu Bw bu ou ku bw kw MU MW w 0 w' M := by
  have HG := Lib.hid hg; have HGC := Lib.hid hgc; have HD1 := Lib.hid hd1; have HD2 := Lib.hid hd2; have HH := Lib.hid hH
  have hI0 : SInv g n j H Bu Bw bu ou ku bw kw MU MW w (j + 1) w MW := ⟨hw, hu, fun _ _ _ _ _ => rfl, fun i h1 h2 => by omega, fun _ _ _ => rfl, Below.refl _ _, rfl⟩
  have HI0 := Lib.hid hI0
  have hjn : (j : Int) < (n : Int) := by omega
  have a0 := hw.rm.out j hj
  have a1 := hw.rm.row j j hj hj
  have a2 := hu.out j hj
  have a3 := hu.row j j hj hj
  have a4 := hw.frozen hj j
  rw [Nat.zero_add] at a1
  clear hu hw hg hgc hd1 hd2 hH hI0
  go_enter Try.func64, Try.ntmps64
  go_wp2_with fail
  go_cut [] (fun wx => ∃ M, SInv g n j H Bu Bw bu ou ku bw kw MU MW w j wx M)
  case first =>
    go_region_with (fail)
    all_goals
      go_wp2_with fail
      go_meet
      refine ⟨_, (HI0.out.drewN _).set hj HD1.out HD2.out HH.out rfl (Nat.le_refl _) (arV_lt _ _ _ _) ?_⟩
      rw [cn_arV, wS_diag]
      exact arS_both .quo (by simp) (by decide +kernel) (HG.out j j (Nat.le_refl _) hj) (by decide +kernel) (HGC.out j j (Nat.le_refl _) hj)
  case rest =>
    obtain ⟨M0, hM0⟩ := hcut
    have HM0 := Lib.hid hM0
    clear hM0 a0 a1 a2 a3 a4
    go_wp2_with fail
    go_loopw [6] (fun iv wr => ∃ (q : Nat) (M : Nat → Nat → Nat), q ≤ j ∧ iv = .int .i64 ((q : Int) - 1) ∧ SInv g n j H Bu Bw bu ou ku bw kw MU MW w q wr M) (fun iv _ => (intOf iv + 1).toNat)
    case atStart => exact ⟨j, M0, Nat.le_refl _, rfl, HM0.out⟩
    case round =>
      obtain ⟨q, M, hq, rfl, hM⟩ := hrel
      rcases Nat.eq_zero_or_pos q with h0 | h0
      · subst h0
        have HM := Lib.hid hM
        clear hM
        go_wp2
        go_end0
        exact ⟨rfl, M, HM.out⟩
      · obtain ⟨i, rfl⟩ : ∃ i, q = i + 1 := ⟨q - 1, by omega⟩
        have hi1 : ((i + 1 : Nat) : Int) - 1 = (i : Int) := by omega
        rw [hi1]
        have hi : i < n := by omega
        have hin : (i : Int) < (n : Int) := by omega
        have hge : (0 : Int) ≤ (i : Int) := by omega
        have HM := Lib.hid hM
        have a0 := hM.wm.rm.out i hi
        have a2 := hM.rm.out i hi
        have a3 := hM.rm.row i i hi hi
        have a4 := hM.wm.frozen hi j
        have a1 := hM.wm.rm.row i j hi hj
        rw [Nat.zero_add] at a1
        clear hM hi1 h0
        go_wp2_with fail
        go_loopw [7, 8] (fun lv kv wq => ∃ (m lb t : Nat), m ≤ j - i ∧ lv = .float .f64 lb ∧ lb < 18446744073709551616 ∧ kv = .int .i64 ((i + 1 + m : Nat) : Int) ∧ cn lb = leftL g i (fun k => wS g k j) m ∧ wq = wr.drewN t) (fun _ kv _ => (j + 1 - (intOf kv).toNat))
        case atStart => exact ⟨0, 0, 0, Nat.zero_le _, rfl, by decide, by go_num, by show cn 0 = 0; decide +kernel, rfl⟩
        case round =>
          obtain ⟨m, lb, t, hm, rfl, hlb, rfl, hcl, rfl⟩ := hrel
          have HCL := Lib.hid hcl; have HLB := Lib.hid hlb
          clear hcl hlb
          by_cases hmj : m < j - i
          · obtain ⟨k, hk⟩ : ∃ k, k = i + 1 + m := ⟨_, rfl⟩
            rw [← hk]
            have hkj : (k : Int) ≤ (j : Int) := by omega
            have hkn : k < n := by omega
            have hkn2 : (k : Int) < (n : Int) := by omega
            have hM2 := HM.out.drewN t
            have e0 := hM2.rm.out i hi
            have e1 := hM2.rm.row i k hi hkn
            have e2 := hM2.wm.rm.out k hkn
            have e3 := hM2.wm.rm.row k j hkn hj
            rw [Nat.zero_add] at e3
            have HGK := Lib.hid (HG.out i k (by omega) hkn)
            have HGQ := Lib.hid (HGC.out i k (by omega) hkn)
            have HDN := Lib.hid (HM.out.don k (by omega) (by omega))
            have HCW := Lib.hid (cn_wS g (i := k) (j := j) (by omega))
            have HK := Lib.hid hk
            have hL : leftL g i (fun k => wS g k j) (m + 1) = arS .sub (leftL g i (fun k => wS g k j) m) (arS .mul (g i k) (wS g k j)) := by rw [hk]; rfl
            have HL := Lib.hid hL
            have HCL2 := Lib.hid (cn_leftL g i (fun k => wS g k j) m)
            obtain ⟨W, hW⟩ : ∃ W, W = wr.drewN t := ⟨_, rfl⟩
            rw [← hW] at e0 e1 e2 e3 ⊢
            have HW := Lib.hid hW
            clear hM2 hk hL hW a0 a1 a2 a3 a4 hmj
            go_wp2_with fail
            go_region_with (fail)
            all_goals
              go_wp2
              go_roundw
              case rel => exact ⟨m + 1, _, _, by have := HK.out; omega, rfl, arV_lt _ _ _ _, by have := HK.out; go_num, by rw [cn_arV, HL.out]; exact arS_both .sub (by simp) HCL.out (by rw [cn_arV]; exact arS_both .mul (by simp) HGK.out HDN.out HGQ.out HCW.out) HCL2.out (cnArS _ _ _), drewMany HW.out rfl⟩
              case measure => simp [intOf]; omega
          · obtain rfl : m = j - i := by omega
            have hkj : ¬ ((i + 1 + (j - i) : Nat) : Int) ≤ (j : Int) := by omega
            have hM2 := HM.out.drewN t
            have e0 := hM2.wm.rm.out i hi
            have e2 := hM2.rm.out i hi
            have e3 := hM2.rm.row i i hi hi
            have e4 := hM2.wm.frozen hi j
            have e1 := hM2.wm.rm.row i j hi hj
            rw [Nat.zero_add] at e1
            have HM2 := Lib.hid hM2
            have hL := wS_up g (i := i) (j := j) (by omega)
            have HL := Lib.hid hL
            have HGK := Lib.hid (HG.out i i (Nat.le_refl _) hi)
            have HGQ := Lib.hid (HGC.out i i (Nat.le_refl _) hi)
            have HCL2 := Lib.hid (cn_leftL g i (fun k => wS g k j) (j - i))
            obtain ⟨W, hW⟩ : ∃ W, W = wr.drewN t := ⟨_, rfl⟩
            rw [← hW] at e0 e1 e2 e3 e4 HM2 ⊢
            clear hM2 hL hW a0 a1 a2 a3 a4 hmj
            go_wp2_with fail
            go_region_with (fail)
            all_goals
              go_wp2
              go_roundw
              case rel => exact ⟨i, _, by omega, by go_num, (HM2.out.drewN _).set hj HD1.out HD2.out HH.out rfl (by omega) (arV_lt _ _ _ _) (by rw [cn_arV, HL.out]; exact arS_both .quo (by simp) HCL.out HGK.out HCL2.out HGQ.out)⟩
              case measure => simp [intOf]
end Go.Proofs.Ytigacobphgeeaaa
