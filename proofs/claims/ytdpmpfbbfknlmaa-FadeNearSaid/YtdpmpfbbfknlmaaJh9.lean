/- Contract of the document's number above a root: Up. -/
import Derived.Test.YtdpmpfbbfknlmaaJ9
import Derived.Test.YtdpmpfbbfknlmaaZ9
set_option linter.unusedVariables false
namespace Lev
/-- The power of two that is taken off. -/
theorem up_cases (e : Int) (L : Nat) (h1 : 1 ≤ L) (h2 : -5000 ≤ e) (h3 : e + L ≤ 5000) (h4 : (L : Int) ≤ 100000) : ∃ c q : Int, e + c = 2 * q ∧ (e + c).tdiv 2 = q ∧ (c = (L : Int) - 128 ∧ ((e + ((L : Int) - 128)).tmod 2 != 0) = false ∨ c = (L : Int) - 128 + 1 ∧ ((e + ((L : Int) - 128)).tmod 2 != 0) = true) := by
  rcases Int.emod_two_eq (e + ((L : Int) - 128)) with h | h
  · refine ⟨(L : Int) - 128, (e + ((L : Int) - 128)) / 2, by omega, ?_, .inl ⟨rfl, ?_⟩⟩
    · rw [Int.tdiv_eq_ediv_of_dvd (by omega)]
    · rw [bne_eq_false_iff_eq]; exact Int.tmod_eq_zero_of_dvd (by omega)
  · refine ⟨(L : Int) - 128 + 1, (e + ((L : Int) - 128 + 1)) / 2, by omega, ?_, .inr ⟨rfl, ?_⟩⟩
    · rw [Int.tdiv_eq_ediv_of_dvd (by omega)]
    · rw [bne_iff_ne]; intro h5; have := Int.dvd_of_tmod_eq_zero h5; omega
end Lev
namespace Go.Proofs.Ytdpmpfbbfknlmaa
open Go.RowKit Go.Shelf Lev

theorem run_max9 {P : Program} (w : World) (ts : Array TypeId) (t : TypeId) (x y : Int) : (Builtin.max_ ts t #[.int .i64 x, .int .i64 y]).run P w = .ok (.int .i64 (max x y)) w := by
  rw [run_max_int2]
  congr 2
  split <;> omega
theorem c3_store' {Y : World} {g a : Nat} (hne : a ≠ g) (v0 v1 v2 : Value) (k : Nat) : (stored3 Y g v0 v1 v2).cell? ⟨a, k, none⟩ = Y.cell? ⟨a, k, none⟩ := by
  unfold stored3
  rw [World.cell?_setCell_other _ ⟨g, 2, none⟩ ⟨a, k, none⟩ _ (fun e => hne (by simpa using (congrArg Addr.block e).symm)), World.cell?_setCell_other _ ⟨g, 1, none⟩ ⟨a, k, none⟩ _ (fun e => hne (by simpa using (congrArg Addr.block e).symm)), World.cell?_setCell_other _ ⟨g, 0, none⟩ ⟨a, k, none⟩ _ (fun e => hne (by simpa using (congrArg Addr.block e).symm))]

set_option maxRecDepth 100000 in
set_option maxHeartbeats 2000000 in
theorem up09_zero (A : Option Addr) (c : Nat) (w : World) (h : DyA w ⟨false, 0, 0⟩ A c) :
    Calls Try.prog 41 #[dyV ⟨false, 0, 0⟩ A c] w fun e w' => (∃ v' u, e = .returned v' ∧ DyV w' v' u ∧ u = 0) ∧ Below w.heap.size w w' := by
  have k0 := ((KeepD.start w).push h).pushz
  rw [World.size_alloc] at k0
  have HM := may03_any ⟨false, 0, 0⟩ A c _ (h.below k0.below).nat h.ok
  have e0 : (nd 0).length = 0 := by rw [nd_zero]; rfl
  unfold dyV at HM ⊢
  dsimp only at k0 HM ⊢
  have hz : (nd 0).length = 0 := e0
  rw [hz] at HM k0 ⊢
  have HZ := Lib.hid hz
  have HM := Lib.hid HM; have K0 := Lib.hid k0
  clear h k0 hz e0
  go_enter Try.func41, Try.ntmps41
  go_wp2_with fail
  refine HM.out.mono ?_
  rintro e w1 ⟨rfl, hb⟩
  have k1 := K0.out.call hb
  have K1 := Lib.hid k1
  have b0 := k1.box (.tail _ (.head _))
  have b1 := k1.box (.head _)
  dsimp only at b0
  rw [HZ.out] at b0
  obtain ⟨a0, a1, a2⟩ := b0.c3
  obtain ⟨f0, f1, f2⟩ := b0.f3
  have b2 : Bk w1 (w.heap.size + 1) 49 #[.bool false, .slice none 0 0, .int .i64 0] := by
    have := b1; unfold Dy.zero at this; rw [nd_zero] at this; exact this
  obtain ⟨g0, g1, g2⟩ := b2.c3
  obtain ⟨h0, h1, h2⟩ := b2.f3
  clear hb k1 b1 b0 b2
  go_wp2
  have KS := ((K1.out.store (.tail _ (.head _)) (L' := [(w.heap.size + 1, Dy.zero, none, 0)]) (fun y hy => by rw [List.mem_singleton.1 hy]; exact ⟨.head _, by dsimp only; omega⟩) (K1.out.val (.tail _ (.head _)))).store (.tail _ (.head _)) (L' := []) (fun y hy => absurd hy List.not_mem_nil) (DyA.zero _))
  have bx := KS.box (.head _)
  have hbe := KS.below
  unfold Dy.zero at bx hbe
  dsimp only at bx hbe
  rw [nd_zero] at bx hbe
  refine ret_dy1 (v0 := .bool false) (v1 := .slice none 0 0) (v2 := .int .i64 0) (g := w.heap.size + 1) rfl rfl bx rfl ?_
  exact ⟨⟨_, 0, rfl, DyV.zero _, rfl⟩, hbe⟩

attribute [local go_sem high] run_max9

set_option maxRecDepth 100000 in
set_option maxHeartbeats 20000000 in
theorem up09_pos (n : Nat) (e : Int) (A : Option Addr) (c : Nat) (w : World) (h : DyA w ⟨false, n, e⟩ A c) (hn : n % 2 = 1) (hr : R 5000 5000 ((n : Rat) * pw e)) :
    Calls Try.prog 41 #[dyV ⟨false, n, e⟩ A c] w fun e1 w' => (∃ v' u, e1 = .returned v' ∧ DyV w' v' u ∧ 0 ≤ u ∧ (n : Rat) * pw e ≤ u * u ∧ R 3000 3100 u) ∧ Below w.heap.size w w' := by
  have k0 := ((KeepD.start w).push h).pushz
  rw [World.size_alloc] at k0
  have HM := may03_any ⟨false, n, e⟩ A c _ (h.below k0.below).nat h.ok
  unfold dyV at HM ⊢
  have HM := Lib.hid HM; have K0 := Lib.hid k0
  obtain ⟨hL1, he1, hL2⟩ := up_facts hn hr
  have hnl : (nd n).length ≤ 1300 := by
    rcases h.ok with ⟨h0, _⟩ | ⟨_, _, _, h4⟩
    · have h0 : n = 0 := h0
      omega
    · exact h4
  have hLL2 : (blen n : Int) ≤ 100000 := by omega
  obtain ⟨c9, q, hcq, hq, hcs⟩ := up_cases e (blen n) hL1 he1 hL2 hLL2
  have hn0 : n ≠ 0 := by omega
  have hp := nd_len_pos hn0
  have t0 : (((nd n).length : Int) == 0) = false := by rw [beq_eq_false_iff_ne]; omega
  have HLE := fun W B cB hB => len02_any (nd n) B cB W hB
  rw [vN_nd] at HLE
  have HFR := (fun W => show Calls Try.prog 38 #[.int .u64 1] W _ from from02_any 1 (by decide) W)
  have HFR := Lib.hid HFR
  have HSL := Lib.hid (fun K (hK : K ≤ 100000) W B cB hB => shl02_any (nd n) B cB K hK W hB (by omega))
  have HS0 := (fun W B cB hB => show Calls Try.prog 46 #[.slice B (nd n).length cB, .int .i64 0] W _ from shl02_any (nd n) B cB 0 (by omega) W hB (by omega))
  have HS0 := Lib.hid HS0
  have HNL := Lib.hid hnl
  have HAR := Lib.hid (fun (r : Nat) (h1 : r + 1 < 2 ^ 65) W B C cB cC hB hC => add02_any (nd r) (nd 1) B C cB cC W hB hC (Nat.le_trans (nd_short (m := r) (k := 3) (Nat.lt_trans (Nat.lt_of_succ_lt h1) (by decide))) (by omega)) (Nat.le_trans (nd_short (m := 1) (k := 1) (by decide)) (by omega)))
  have HSR := Lib.hid (fun C (hC : C ≤ 100000) W B cB hB => shr02_any (nd n) B cB C hC W hB (by omega))
  have HAD := Lib.hid (fun (r : Nat) (h1 : (nd r).length ≤ 1400) W B C cB cC hB hC => add02_any (nd r) (nd 1) B C cB cC W hB hC (by omega) (Nat.le_trans (nd_short (m := 1) (k := 1) (by decide)) (by omega)))
  have HRO := Lib.hid (fun (m : Nat) (hm : m ≤ 2 ^ 128) W B cB hB => root02_any (nd m) B cB W hB (by rw [vN_nd]; exact Nat.le_trans (blen_le hm) (by omega)))
  have HNO := Lib.hid (fun (r : Nat) (hr : r + 1 < 2 ^ 65) W B cB hB (hq : R 3000 3100 (((r + 1 : Nat) : Rat) * pw q)) => norm_any false q (nd (r + 1)) B cB W hB (by omega) (Nat.le_trans (nd_short (m := r + 1) (k := 3) (Nat.lt_trans hr (by decide))) (by omega)) (((r + 1 : Nat) : Rat) * pw q) (by rw [vN_nd, sv_false]) (R_Q hq (by omega) (by omega)))
  simp only [vN_nd] at HSL HSR HAD HAR HRO
  obtain ⟨L, hLz⟩ : ∃ L : Int, L = (blen n : Int) := ⟨_, rfl⟩
  rw [← hLz] at hcs hL2 hLL2 HLE
  have hL3 : 1 ≤ L := by omega
  have HLE := Lib.hid HLE
  have HCQ := Lib.hid hcq
  have HUN := Lib.hid (fun K (hK : blen n + K ≤ 128) => up_neg (n := n) hK)
  have HUP := Lib.hid (fun C (hC : blen n ≤ 128 + C) => up_pos (n := n) hC)
  have HLZ := Lib.hid hLz
  have hq1 : -3000 ≤ q ∧ q ≤ 3000 := by omega
  have HQ1 := Lib.hid hq1
  have hdv : (e + c9).tdiv 2 = q := hq
  obtain ⟨c0, hc0⟩ : ∃ c0, c0 = L - 128 := ⟨_, rfl⟩
  have hc1 : L - 128 = c0 := hc0.symm
  rw [hc1] at hcs
  obtain ⟨E0, hE0⟩ : ∃ E0, E0 = e + c0 := ⟨_, rfl⟩
  have hE1 : e + c0 = E0 := hE0.symm
  rw [hE1] at hcs
  have hcb : -200 ≤ c9 ∧ c9 ≤ 100000 := by rcases hcs with ⟨h, _⟩ | ⟨h, _⟩ <;> omega
  have hcb2 : -128 ≤ c0 ∧ c0 ≤ 100000 := by omega
  have hEb : -10000 ≤ E0 ∧ E0 ≤ 110000 := by omega
  have HKC : (∃ K : Nat, (max 0 (-c9) = (K : Int)) ∧ decide (0 < c9) = false ∧ blen n + K ≤ 128 ∧ c9 = -(K : Int) ∧ K ≤ 100000) ∨ (∃ C : Nat, c9 = (C : Int) ∧ max 0 (-c9) = 0 ∧ decide (0 < c9) = true ∧ blen n ≤ 128 + C ∧ C ≤ 100000) := by
    by_cases h0 : 0 < c9
    · exact .inr ⟨c9.toNat, by omega, by omega, decide_eq_true h0, by rcases hcs with ⟨h, _⟩ | ⟨h, _⟩ <;> omega, by omega⟩
    · exact .inl ⟨(-c9).toNat, by omega, decide_eq_false h0, by rcases hcs with ⟨h, _⟩ | ⟨h, _⟩ <;> omega, by omega, by omega⟩
  have hwr : IntKind.i64.wrap ((IntKind.i64.wrap (e + c9)).tdiv 2) = q := by
    have h1 : IntKind.i64.wrap (e + c9) = e + c9 := by rw [IntKind.wrap_i64]; omega
    have h2 : IntKind.i64.wrap q = q := by rw [IntKind.wrap_i64]; omega
    rw [h1, hdv, h2]
  have HWR := Lib.hid hwr
  clear hwr
  have HKC := Lib.hid HKC
  have HCS := Lib.hid hcs
  clear h hr hn hp hn0 hLz hcq hq1 hnl k0 hq hc0 hE0 hL1 hL2 hLL2 hcs
  go_enter Try.func41, Try.ntmps41
  go_wp2_with fail
  refine HM.out.mono ?_
  rintro e1 w1 ⟨rfl, hb⟩
  have k1 := K0.out.call hb
  have K1 := Lib.hid k1
  have b0 := k1.box (.tail _ (.head _))
  obtain ⟨a0, a1, a2⟩ := b0.c3
  obtain ⟨f0, f1, f2⟩ := b0.f3
  clear hb k1 b0
  go_wp2_with fail
  have K2 := Lib.hid (K1.out.store (.tail _ (.head _)) (L' := [(w.heap.size + 1, Dy.zero, none, 0)]) (fun y hy => by rw [List.mem_singleton.1 hy]; exact ⟨.head _, by dsimp only; omega⟩) (K1.out.val (.tail _ (.head _))))
  refine (HLE.out _ _ _ (K2.out.val (.head _)).nat).mono ?_
  rintro e2 w2 ⟨rfl, hb⟩
  have k3 := K2.out.call hb
  have K3 := Lib.hid k3
  have HD3 := Lib.hid (k3.val (.head _)).nat
  obtain ⟨p0, p1, p2⟩ := (k3.box (.head _)).c3
  clear hb k3 a0 a1 a2 f0 f1 f2
  rcases HKC.out with ⟨K, hK, hdc, hbK, hcK, hK9⟩ | ⟨C, hC, hK, hdc, hbC, hC9⟩
  · have HM9 := Lib.hid (HUN.out K hbK)
    have HCK := Lib.hid hcK
    clear hbK hcK
    rcases HCS.out with ⟨hce, hpar⟩ | ⟨hce, hpar⟩
    · subst hce
      go_wp2_with fail
      with_reducible refine (HSL.out K hK9 _ _ _ HD3.out).mono ?_
      rintro e1 w4 ⟨⟨v, rfl, B4, cB4, rfl, h4⟩, hb⟩
      have k4 := K3.out.call hb
      have K4 := Lib.hid k4
      obtain ⟨m, hm⟩ : ∃ m, m = n * 2 ^ K := ⟨_, rfl⟩
      rw [← hm] at h4 HM9 ⊢
      rw [← HCK.out] at HM9
      have H4 := Lib.hid h4
      clear hb k4 h4 hm
      have hwr := HWR.out
      try rw [hE1] at hwr
      have HNX := Lib.hid (fun r (h1 : r + 1 < 2 ^ 65) W B cB hB hq => by have := HNO.out r h1 W B cB hB hq; rw [← hwr] at this; exact this)
      have HW2 := Lib.hid hwr
      clear hwr
      obtain ⟨p0, p1, p2⟩ := (K4.out.box (.head _)).c3
      have HKE := Lib.hid (fun Y (h : Below w4.heap.size w4 Y) => show Y.cell? ⟨w.heap.size, 2, none⟩ = some (.int .i64 e) ∧ Below w.heap.size w Y from ⟨((K4.out.call h).box (.head _)).c3.2.2, (K4.out.call h).below⟩)
      have HKS := Lib.hid (fun Y v0 v1 v2 (h : Below w4.heap.size w4 Y) => show (stored3 Y (w.heap.size + 1) v0 v1 v2).cell? ⟨w.heap.size, 2, none⟩ = some (.int .i64 e) ∧ Below w.heap.size w (stored3 Y (w.heap.size + 1) v0 v1 v2) from (by
        have q := HKE.out Y h
        rw [c3_store' (by omega)]
        exact ⟨q.1, Below.setCell (Below.setCell (Below.setCell q.2 (by dsimp only; omega) _) (by dsimp only; omega) _) (by dsimp only; omega) _⟩))
      unfold stored3 at HKS
      go_wp2_with fail
      go_region_held3 (fun Y => (Y.cell? ⟨w.heap.size, 2, none⟩ = some (.int .i64 e) ∧ Below w.heap.size w Y))
        (first | (refine HKS.out _ _ _ _ ?_; (repeat (first | assumption | exact Below.refl _ _ | refine Below.allocs ?_ _ | refine Below.drews ?_ | refine Below.chain ?_ (by assumption)))) | (refine HKE.out _ ?_; (repeat (first | assumption | exact Below.refl _ _ | refine Below.allocs ?_ _ | refine Below.drews ?_ | refine Below.chain ?_ (by assumption)))))
        (first
          | (go_at_call 65; ((with_reducible refine (HRO.out m HM9.out.1 _ _ _ (H4.out.below (by repeat (first | assumption | exact Below.refl _ _ | refine Below.allocs ?_ _ | refine Below.drews ?_ | refine Below.chain ?_ (by assumption))))).mono ?_); rintro e y5 ⟨⟨v, r, rfl, ⟨B15, c15, rfl, h15⟩, hr1, hr2⟩, hb15⟩))
          | (go_at_call 38; ((with_reducible refine (HFR.out _).mono ?_); rintro e y6 ⟨⟨v, rfl, B16, c16, rfl, h16⟩, hb16⟩))
          | (go_at_call 64; ((with_reducible refine (HAR.out r (up_root hr1 HM9.out.1) _ _ _ _ _ (h15.below (by repeat (first | assumption | exact Below.refl _ _ | refine Below.allocs ?_ _ | refine Below.drews ?_ | refine Below.chain ?_ (by assumption)))) (h16.below (by repeat (first | assumption | exact Below.refl _ _ | refine Below.allocs ?_ _ | refine Below.drews ?_ | refine Below.chain ?_ (by assumption))))).mono ?_); rintro e y7 ⟨⟨v, rfl, B17, c17, rfl, h17⟩, hb17⟩))
          | (go_at_call 37; ((with_reducible refine (HNX.out r (up_root hr1 HM9.out.1) _ _ _ (h17.below (by repeat (first | assumption | exact Below.refl _ _ | refine Below.allocs ?_ _ | refine Below.drews ?_ | refine Below.chain ?_ (by assumption)))) (up_end HM9.out.2 hr2 HCQ.out (up_root hr1 HM9.out.1) HQ1.out.1 HQ1.out.2).2.2).mono ?_); rintro e y8 ⟨⟨v, rfl, hv⟩, hb18⟩; obtain ⟨d8, A8, c8, rfl, ha8, hv8⟩ := hv.a; have hbE : Below w4.heap.size w4 y8 := (Below.chain (by repeat (first | assumption | exact Below.refl _ _ | refine Below.allocs ?_ _ | refine Below.drews ?_ | refine Below.chain ?_ (by assumption))) hb18); have bx := (K4.out.call hbE).box (.tail _ (.head _)); obtain ⟨x0, x1, x2⟩ := bx.c3; obtain ⟨y0, y1, y2⟩ := bx.f3; unfold dyV)))
      all_goals
        have KZ := Lib.hid ((K4.out.call hbE).store (.tail _ (.head _)) (L' := []) (fun y hy => absurd hy List.not_mem_nil) ha8)
        have HV8 := Lib.hid (show d8.v = ((r + 1 : Nat) : Rat) * pw q by rw [hv8, HW2.out])
        have HUE := Lib.hid (up_end HM9.out.2 hr2 HCQ.out (up_root hr1 HM9.out.1) HQ1.out.1 HQ1.out.2)
        go_wp2
        refine ret_dy1 (v0 := .bool d8.neg) (v1 := .slice A8 (nd d8.n).length c8) (v2 := .int .i64 d8.e) (g := w.heap.size + 1) rfl rfl (KZ.out.box (.head _)) rfl ?_
        exact ⟨⟨_, d8.v, rfl, (KZ.out.val (.head _)).v, by rw [HV8.out]; exact HUE.out.1, by rw [HV8.out]; exact HUE.out.2.1, by rw [HV8.out]; exact HUE.out.2.2⟩, KZ.out.below⟩


    · have hce2 := hce.symm
      clear hce
      go_wp2_with fail
      with_reducible refine (HSL.out K hK9 _ _ _ HD3.out).mono ?_
      rintro e1 w4 ⟨⟨v, rfl, B4, cB4, rfl, h4⟩, hb⟩
      have k4 := K3.out.call hb
      have K4 := Lib.hid k4
      obtain ⟨m, hm⟩ : ∃ m, m = n * 2 ^ K := ⟨_, rfl⟩
      rw [← hm] at h4 HM9 ⊢
      rw [← HCK.out] at HM9
      have H4 := Lib.hid h4
      clear hb k4 h4 hm
      have hwr := HWR.out
      try rw [hE1] at hwr
      have HNX := Lib.hid (fun r (h1 : r + 1 < 2 ^ 65) W B cB hB hq => by have := HNO.out r h1 W B cB hB hq; rw [← hwr] at this; exact this)
      have HW2 := Lib.hid hwr
      clear hwr
      obtain ⟨p0, p1, p2⟩ := (K4.out.box (.head _)).c3
      have HKE := Lib.hid (fun Y (h : Below w4.heap.size w4 Y) => show Y.cell? ⟨w.heap.size, 2, none⟩ = some (.int .i64 e) ∧ Below w.heap.size w Y from ⟨((K4.out.call h).box (.head _)).c3.2.2, (K4.out.call h).below⟩)
      have HKS := Lib.hid (fun Y v0 v1 v2 (h : Below w4.heap.size w4 Y) => show (stored3 Y (w.heap.size + 1) v0 v1 v2).cell? ⟨w.heap.size, 2, none⟩ = some (.int .i64 e) ∧ Below w.heap.size w (stored3 Y (w.heap.size + 1) v0 v1 v2) from (by
        have q := HKE.out Y h
        rw [c3_store' (by omega)]
        exact ⟨q.1, Below.setCell (Below.setCell (Below.setCell q.2 (by dsimp only; omega) _) (by dsimp only; omega) _) (by dsimp only; omega) _⟩))
      unfold stored3 at HKS
      go_wp2_with fail
      go_region_held3 (fun Y => (Y.cell? ⟨w.heap.size, 2, none⟩ = some (.int .i64 e) ∧ Below w.heap.size w Y))
        (first | (refine HKS.out _ _ _ _ ?_; (repeat (first | assumption | exact Below.refl _ _ | refine Below.allocs ?_ _ | refine Below.drews ?_ | refine Below.chain ?_ (by assumption)))) | (refine HKE.out _ ?_; (repeat (first | assumption | exact Below.refl _ _ | refine Below.allocs ?_ _ | refine Below.drews ?_ | refine Below.chain ?_ (by assumption)))))
        (first
          | (go_at_call 65; ((with_reducible refine (HRO.out m HM9.out.1 _ _ _ (H4.out.below (by repeat (first | assumption | exact Below.refl _ _ | refine Below.allocs ?_ _ | refine Below.drews ?_ | refine Below.chain ?_ (by assumption))))).mono ?_); rintro e y5 ⟨⟨v, r, rfl, ⟨B15, c15, rfl, h15⟩, hr1, hr2⟩, hb15⟩))
          | (go_at_call 38; ((with_reducible refine (HFR.out _).mono ?_); rintro e y6 ⟨⟨v, rfl, B16, c16, rfl, h16⟩, hb16⟩))
          | (go_at_call 64; ((with_reducible refine (HAR.out r (up_root hr1 HM9.out.1) _ _ _ _ _ (h15.below (by repeat (first | assumption | exact Below.refl _ _ | refine Below.allocs ?_ _ | refine Below.drews ?_ | refine Below.chain ?_ (by assumption)))) (h16.below (by repeat (first | assumption | exact Below.refl _ _ | refine Below.allocs ?_ _ | refine Below.drews ?_ | refine Below.chain ?_ (by assumption))))).mono ?_); rintro e y7 ⟨⟨v, rfl, B17, c17, rfl, h17⟩, hb17⟩))
          | (go_at_call 37; ((with_reducible refine (HNX.out r (up_root hr1 HM9.out.1) _ _ _ (h17.below (by repeat (first | assumption | exact Below.refl _ _ | refine Below.allocs ?_ _ | refine Below.drews ?_ | refine Below.chain ?_ (by assumption)))) (up_end HM9.out.2 hr2 HCQ.out (up_root hr1 HM9.out.1) HQ1.out.1 HQ1.out.2).2.2).mono ?_); rintro e y8 ⟨⟨v, rfl, hv⟩, hb18⟩; obtain ⟨d8, A8, c8, rfl, ha8, hv8⟩ := hv.a; have hbE : Below w4.heap.size w4 y8 := (Below.chain (by repeat (first | assumption | exact Below.refl _ _ | refine Below.allocs ?_ _ | refine Below.drews ?_ | refine Below.chain ?_ (by assumption))) hb18); have bx := (K4.out.call hbE).box (.tail _ (.head _)); obtain ⟨x0, x1, x2⟩ := bx.c3; obtain ⟨y0, y1, y2⟩ := bx.f3; unfold dyV)))
      all_goals
        have KZ := Lib.hid ((K4.out.call hbE).store (.tail _ (.head _)) (L' := []) (fun y hy => absurd hy List.not_mem_nil) ha8)
        have HV8 := Lib.hid (show d8.v = ((r + 1 : Nat) : Rat) * pw q by rw [hv8, HW2.out])
        have HUE := Lib.hid (up_end HM9.out.2 hr2 HCQ.out (up_root hr1 HM9.out.1) HQ1.out.1 HQ1.out.2)
        go_wp2
        refine ret_dy1 (v0 := .bool d8.neg) (v1 := .slice A8 (nd d8.n).length c8) (v2 := .int .i64 d8.e) (g := w.heap.size + 1) rfl rfl (KZ.out.box (.head _)) rfl ?_
        exact ⟨⟨_, d8.v, rfl, (KZ.out.val (.head _)).v, by rw [HV8.out]; exact HUE.out.1, by rw [HV8.out]; exact HUE.out.2.1, by rw [HV8.out]; exact HUE.out.2.2⟩, KZ.out.below⟩


  · have hM9 := HUP.out C hbC
    rw [← hC] at hM9
    have HM9 := Lib.hid hM9
    have hsr := HSR.out C hC9
    rw [← hC] at hsr
    have HSC := Lib.hid hsr
    clear hbC hM9 hsr hC
    rcases HCS.out with ⟨hce, hpar⟩ | ⟨hce, hpar⟩
    · subst hce
      go_wp2_with fail
      with_reducible refine (HS0.out _ _ _ HD3.out).mono ?_
      rintro e1 w3 ⟨⟨v, rfl, B3, cB3, rfl, h3⟩, hb⟩
      have K4a := Lib.hid (K3.out.call hb)
      have HD4 := Lib.hid (HD3.out.below hb)
      obtain ⟨p0, p1, p2⟩ := (K4a.out.box (.head _)).c3
      clear hb h3
      go_wp2_with fail
      with_reducible refine (HSC.out _ _ _ HD4.out).mono ?_
      rintro e1 w5 ⟨⟨v, rfl, B5, cB5, rfl, h5⟩, hb⟩
      have K5 := Lib.hid (K4a.out.call hb)
      have H5 := Lib.hid h5
      have HM5 := Lib.hid (Nat.le_trans (nd_len_le (Nat.div_le_self n (2 ^ C))) (Nat.le_trans HNL.out (show 1300 ≤ 1400 by decide)))
      generalize (cmpN (n / 2 ^ C * 2 ^ C) n == 0) = cb at *
      obtain ⟨m5, hm5⟩ : ∃ m5, m5 = n / 2 ^ C := ⟨_, rfl⟩
      rw [← hm5] at h5 H5 HM5 HM9 ⊢
      clear hb h5 hm5
      go_wp2_with fail
      with_reducible refine (HFR.out _).mono ?_
      rintro e1 w6 ⟨⟨v, rfl, B6, cB6, rfl, h6⟩, hb⟩
      have K6 := Lib.hid (K5.out.call hb)
      have H6 := Lib.hid h6
      have H56 := Lib.hid (H5.out.below hb)
      clear hb h6
      go_wp2_with fail
      with_reducible refine (HAD.out m5 HM5.out _ _ _ _ _ H56.out H6.out).mono ?_
      rintro e1 w4 ⟨⟨v, rfl, B4, cB4, rfl, h4⟩, hb⟩
      have K4 := Lib.hid (K6.out.call hb)
      obtain ⟨m, hm⟩ : ∃ m, m = m5 + 1 := ⟨_, rfl⟩
      rw [← hm] at h4 HM9 ⊢
      have H4 := Lib.hid h4
      clear hb h4 hm
      have hwr := HWR.out
      try rw [hE1] at hwr
      have HNX := Lib.hid (fun r (h1 : r + 1 < 2 ^ 65) W B cB hB hq => by have := HNO.out r h1 W B cB hB hq; rw [← hwr] at this; exact this)
      have HW2 := Lib.hid hwr
      clear hwr
      obtain ⟨p0, p1, p2⟩ := (K4.out.box (.head _)).c3
      have HKE := Lib.hid (fun Y (h : Below w4.heap.size w4 Y) => show Y.cell? ⟨w.heap.size, 2, none⟩ = some (.int .i64 e) ∧ Below w.heap.size w Y from ⟨((K4.out.call h).box (.head _)).c3.2.2, (K4.out.call h).below⟩)
      have HKS := Lib.hid (fun Y v0 v1 v2 (h : Below w4.heap.size w4 Y) => show (stored3 Y (w.heap.size + 1) v0 v1 v2).cell? ⟨w.heap.size, 2, none⟩ = some (.int .i64 e) ∧ Below w.heap.size w (stored3 Y (w.heap.size + 1) v0 v1 v2) from (by
        have q := HKE.out Y h
        rw [c3_store' (by omega)]
        exact ⟨q.1, Below.setCell (Below.setCell (Below.setCell q.2 (by dsimp only; omega) _) (by dsimp only; omega) _) (by dsimp only; omega) _⟩))
      unfold stored3 at HKS
      go_wp2_with fail
      go_region_held3 (fun Y => (Y.cell? ⟨w.heap.size, 2, none⟩ = some (.int .i64 e) ∧ Below w.heap.size w Y))
        (first | (refine HKS.out _ _ _ _ ?_; (repeat (first | assumption | exact Below.refl _ _ | refine Below.allocs ?_ _ | refine Below.drews ?_ | refine Below.chain ?_ (by assumption)))) | (refine HKE.out _ ?_; (repeat (first | assumption | exact Below.refl _ _ | refine Below.allocs ?_ _ | refine Below.drews ?_ | refine Below.chain ?_ (by assumption)))))
        (first
          | (go_at_call 65; ((with_reducible refine (HRO.out m HM9.out.1 _ _ _ (H4.out.below (by repeat (first | assumption | exact Below.refl _ _ | refine Below.allocs ?_ _ | refine Below.drews ?_ | refine Below.chain ?_ (by assumption))))).mono ?_); rintro e y5 ⟨⟨v, r, rfl, ⟨B15, c15, rfl, h15⟩, hr1, hr2⟩, hb15⟩))
          | (go_at_call 38; ((with_reducible refine (HFR.out _).mono ?_); rintro e y6 ⟨⟨v, rfl, B16, c16, rfl, h16⟩, hb16⟩))
          | (go_at_call 64; ((with_reducible refine (HAR.out r (up_root hr1 HM9.out.1) _ _ _ _ _ (h15.below (by repeat (first | assumption | exact Below.refl _ _ | refine Below.allocs ?_ _ | refine Below.drews ?_ | refine Below.chain ?_ (by assumption)))) (h16.below (by repeat (first | assumption | exact Below.refl _ _ | refine Below.allocs ?_ _ | refine Below.drews ?_ | refine Below.chain ?_ (by assumption))))).mono ?_); rintro e y7 ⟨⟨v, rfl, B17, c17, rfl, h17⟩, hb17⟩))
          | (go_at_call 37; ((with_reducible refine (HNX.out r (up_root hr1 HM9.out.1) _ _ _ (h17.below (by repeat (first | assumption | exact Below.refl _ _ | refine Below.allocs ?_ _ | refine Below.drews ?_ | refine Below.chain ?_ (by assumption)))) (up_end HM9.out.2 hr2 HCQ.out (up_root hr1 HM9.out.1) HQ1.out.1 HQ1.out.2).2.2).mono ?_); rintro e y8 ⟨⟨v, rfl, hv⟩, hb18⟩; obtain ⟨d8, A8, c8, rfl, ha8, hv8⟩ := hv.a; have hbE : Below w4.heap.size w4 y8 := (Below.chain (by repeat (first | assumption | exact Below.refl _ _ | refine Below.allocs ?_ _ | refine Below.drews ?_ | refine Below.chain ?_ (by assumption))) hb18); have bx := (K4.out.call hbE).box (.tail _ (.head _)); obtain ⟨x0, x1, x2⟩ := bx.c3; obtain ⟨y0, y1, y2⟩ := bx.f3; unfold dyV)))
      all_goals
        have KZ := Lib.hid ((K4.out.call hbE).store (.tail _ (.head _)) (L' := []) (fun y hy => absurd hy List.not_mem_nil) ha8)
        have HV8 := Lib.hid (show d8.v = ((r + 1 : Nat) : Rat) * pw q by rw [hv8, HW2.out])
        have HUE := Lib.hid (up_end HM9.out.2 hr2 HCQ.out (up_root hr1 HM9.out.1) HQ1.out.1 HQ1.out.2)
        go_wp2
        refine ret_dy1 (v0 := .bool d8.neg) (v1 := .slice A8 (nd d8.n).length c8) (v2 := .int .i64 d8.e) (g := w.heap.size + 1) rfl rfl (KZ.out.box (.head _)) rfl ?_
        exact ⟨⟨_, d8.v, rfl, (KZ.out.val (.head _)).v, by rw [HV8.out]; exact HUE.out.1, by rw [HV8.out]; exact HUE.out.2.1, by rw [HV8.out]; exact HUE.out.2.2⟩, KZ.out.below⟩


    · have hce2 := hce.symm
      clear hce
      go_wp2_with fail
      with_reducible refine (HS0.out _ _ _ HD3.out).mono ?_
      rintro e1 w3 ⟨⟨v, rfl, B3, cB3, rfl, h3⟩, hb⟩
      have K4a := Lib.hid (K3.out.call hb)
      have HD4 := Lib.hid (HD3.out.below hb)
      obtain ⟨p0, p1, p2⟩ := (K4a.out.box (.head _)).c3
      clear hb h3
      go_wp2_with fail
      with_reducible refine (HSC.out _ _ _ HD4.out).mono ?_
      rintro e1 w5 ⟨⟨v, rfl, B5, cB5, rfl, h5⟩, hb⟩
      have K5 := Lib.hid (K4a.out.call hb)
      have H5 := Lib.hid h5
      have HM5 := Lib.hid (Nat.le_trans (nd_len_le (Nat.div_le_self n (2 ^ C))) (Nat.le_trans HNL.out (show 1300 ≤ 1400 by decide)))
      generalize (cmpN (n / 2 ^ C * 2 ^ C) n == 0) = cb at *
      obtain ⟨m5, hm5⟩ : ∃ m5, m5 = n / 2 ^ C := ⟨_, rfl⟩
      rw [← hm5] at h5 H5 HM5 HM9 ⊢
      clear hb h5 hm5
      go_wp2_with fail
      with_reducible refine (HFR.out _).mono ?_
      rintro e1 w6 ⟨⟨v, rfl, B6, cB6, rfl, h6⟩, hb⟩
      have K6 := Lib.hid (K5.out.call hb)
      have H6 := Lib.hid h6
      have H56 := Lib.hid (H5.out.below hb)
      clear hb h6
      go_wp2_with fail
      with_reducible refine (HAD.out m5 HM5.out _ _ _ _ _ H56.out H6.out).mono ?_
      rintro e1 w4 ⟨⟨v, rfl, B4, cB4, rfl, h4⟩, hb⟩
      have K4 := Lib.hid (K6.out.call hb)
      obtain ⟨m, hm⟩ : ∃ m, m = m5 + 1 := ⟨_, rfl⟩
      rw [← hm] at h4 HM9 ⊢
      have H4 := Lib.hid h4
      clear hb h4 hm
      have hwr := HWR.out
      try rw [hE1] at hwr
      have HNX := Lib.hid (fun r (h1 : r + 1 < 2 ^ 65) W B cB hB hq => by have := HNO.out r h1 W B cB hB hq; rw [← hwr] at this; exact this)
      have HW2 := Lib.hid hwr
      clear hwr
      obtain ⟨p0, p1, p2⟩ := (K4.out.box (.head _)).c3
      have HKE := Lib.hid (fun Y (h : Below w4.heap.size w4 Y) => show Y.cell? ⟨w.heap.size, 2, none⟩ = some (.int .i64 e) ∧ Below w.heap.size w Y from ⟨((K4.out.call h).box (.head _)).c3.2.2, (K4.out.call h).below⟩)
      have HKS := Lib.hid (fun Y v0 v1 v2 (h : Below w4.heap.size w4 Y) => show (stored3 Y (w.heap.size + 1) v0 v1 v2).cell? ⟨w.heap.size, 2, none⟩ = some (.int .i64 e) ∧ Below w.heap.size w (stored3 Y (w.heap.size + 1) v0 v1 v2) from (by
        have q := HKE.out Y h
        rw [c3_store' (by omega)]
        exact ⟨q.1, Below.setCell (Below.setCell (Below.setCell q.2 (by dsimp only; omega) _) (by dsimp only; omega) _) (by dsimp only; omega) _⟩))
      unfold stored3 at HKS
      go_wp2_with fail
      go_region_held3 (fun Y => (Y.cell? ⟨w.heap.size, 2, none⟩ = some (.int .i64 e) ∧ Below w.heap.size w Y))
        (first | (refine HKS.out _ _ _ _ ?_; (repeat (first | assumption | exact Below.refl _ _ | refine Below.allocs ?_ _ | refine Below.drews ?_ | refine Below.chain ?_ (by assumption)))) | (refine HKE.out _ ?_; (repeat (first | assumption | exact Below.refl _ _ | refine Below.allocs ?_ _ | refine Below.drews ?_ | refine Below.chain ?_ (by assumption)))))
        (first
          | (go_at_call 65; ((with_reducible refine (HRO.out m HM9.out.1 _ _ _ (H4.out.below (by repeat (first | assumption | exact Below.refl _ _ | refine Below.allocs ?_ _ | refine Below.drews ?_ | refine Below.chain ?_ (by assumption))))).mono ?_); rintro e y5 ⟨⟨v, r, rfl, ⟨B15, c15, rfl, h15⟩, hr1, hr2⟩, hb15⟩))
          | (go_at_call 38; ((with_reducible refine (HFR.out _).mono ?_); rintro e y6 ⟨⟨v, rfl, B16, c16, rfl, h16⟩, hb16⟩))
          | (go_at_call 64; ((with_reducible refine (HAR.out r (up_root hr1 HM9.out.1) _ _ _ _ _ (h15.below (by repeat (first | assumption | exact Below.refl _ _ | refine Below.allocs ?_ _ | refine Below.drews ?_ | refine Below.chain ?_ (by assumption)))) (h16.below (by repeat (first | assumption | exact Below.refl _ _ | refine Below.allocs ?_ _ | refine Below.drews ?_ | refine Below.chain ?_ (by assumption))))).mono ?_); rintro e y7 ⟨⟨v, rfl, B17, c17, rfl, h17⟩, hb17⟩))
          | (go_at_call 37; ((with_reducible refine (HNX.out r (up_root hr1 HM9.out.1) _ _ _ (h17.below (by repeat (first | assumption | exact Below.refl _ _ | refine Below.allocs ?_ _ | refine Below.drews ?_ | refine Below.chain ?_ (by assumption)))) (up_end HM9.out.2 hr2 HCQ.out (up_root hr1 HM9.out.1) HQ1.out.1 HQ1.out.2).2.2).mono ?_); rintro e y8 ⟨⟨v, rfl, hv⟩, hb18⟩; obtain ⟨d8, A8, c8, rfl, ha8, hv8⟩ := hv.a; have hbE : Below w4.heap.size w4 y8 := (Below.chain (by repeat (first | assumption | exact Below.refl _ _ | refine Below.allocs ?_ _ | refine Below.drews ?_ | refine Below.chain ?_ (by assumption))) hb18); have bx := (K4.out.call hbE).box (.tail _ (.head _)); obtain ⟨x0, x1, x2⟩ := bx.c3; obtain ⟨y0, y1, y2⟩ := bx.f3; unfold dyV)))
      all_goals
        have KZ := Lib.hid ((K4.out.call hbE).store (.tail _ (.head _)) (L' := []) (fun y hy => absurd hy List.not_mem_nil) ha8)
        have HV8 := Lib.hid (show d8.v = ((r + 1 : Nat) : Rat) * pw q by rw [hv8, HW2.out])
        have HUE := Lib.hid (up_end HM9.out.2 hr2 HCQ.out (up_root hr1 HM9.out.1) HQ1.out.1 HQ1.out.2)
        go_wp2
        refine ret_dy1 (v0 := .bool d8.neg) (v1 := .slice A8 (nd d8.n).length c8) (v2 := .int .i64 d8.e) (g := w.heap.size + 1) rfl rfl (KZ.out.box (.head _)) rfl ?_
        exact ⟨⟨_, d8.v, rfl, (KZ.out.val (.head _)).v, by rw [HV8.out]; exact HUE.out.1, by rw [HV8.out]; exact HUE.out.2.1, by rw [HV8.out]; exact HUE.out.2.2⟩, KZ.out.below⟩


end Go.Proofs.Ytdpmpfbbfknlmaa
