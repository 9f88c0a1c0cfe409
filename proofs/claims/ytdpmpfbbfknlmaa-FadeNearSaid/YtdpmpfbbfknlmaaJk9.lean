/- Contracts of the document's entry and norms of layer 9. -/
import Derived.Test.YtdpmpfbbfknlmaaJh9
import Derived.Test.YtdpmpfbbfknlmaaW9
set_option linter.unusedVariables false
namespace Go.Proofs.Ytdpmpfbbfknlmaa
open Go.RowKit Go.Shelf Lev

set_option maxRecDepth 100000 in
set_option maxHeartbeats 2000000 in
theorem entry09_diag (n : Nat) (hn : 1 ≤ n ∧ n ≤ 6) (l : List DyE) (A : Option Addr) (ca : Nat) (w : World) (hl : DyL w A l ca) (i : Nat) (hi : i ≤ n) (hst : st (n + 1) i < l.length) :
    Calls Try.prog 42 #[.int .i64 (n : Int), .slice A l.length ca, .int .i64 (i : Int), .int .i64 (i : Int)] w fun e w' => (∃ v', e = .returned v' ∧ DyV w' v' (lv l (st (n + 1) i))) ∧ Below w.heap.size w w' := by
  have k0 := (KeepD.start w).pushz
  have HAT := Lib.hid (fun W => rat_diag (n : Int) i (n + 1) (by omega) (by omega) (by omega) (by omega) W)
  have hlW := hl.below k0.below
  obtain ⟨b1, off1, rfl, hb1, _⟩ := hlW.reads (by omega)
  obtain ⟨⟨a0, a1, a2⟩, hd1⟩ := hlW.at hst
  have hv := (hlW.dy _ (List.getElem_mem hst))
  have HMY := may03_any _ _ _ _ hv.nat hv.ok
  have HLV := Lib.hid (lv_get hst)
  have HDA := Lib.hid hv
  unfold dyV at HMY
  have HMY := Lib.hid HMY; have K0 := Lib.hid k0
  rw [lv_get hst]
  have ht : ((st (n + 1) i : Nat) : Int) < (l.length : Int) := by omega
  have HHL := Lib.hid hst
  clear hl k0 hlW hd1 hv HLV
  generalize hx : l[st (n + 1) i] = x at *
  generalize st (n + 1) i = s at *
  obtain ⟨d1, A1, c1⟩ := x
  dsimp only at a0 a1 a2 HMY HDA ⊢
  clear hx
  go_enter Try.func42, Try.ntmps42
  go_wp2_with fail
  refine (HAT.out _).mono ?_
  rintro e w1 ⟨rfl, rfl⟩
  go_wp2_with fail
  refine HMY.out.mono ?_
  rintro e w2 ⟨rfl, hb⟩
  have k2 := K0.out.call hb
  have K2 := Lib.hid k2
  obtain ⟨c0, c1, c2⟩ := (k2.box (.head _)).c3
  obtain ⟨f0, f1, f2⟩ := (k2.box (.head _)).f3
  have HDA2 := Lib.hid (HDA.out.below hb)
  clear hb k2
  go_wp2
  have KS := Lib.hid (K2.out.store (.head _) (L' := []) (fun y hy => absurd hy List.not_mem_nil) HDA2.out)
  refine ret_dy1 (v0 := .bool d1.neg) (v1 := .slice A1 (nd d1.n).length _) (v2 := .int .i64 d1.e) (g := w.heap.size) rfl rfl (KS.out.box (.head _)) rfl ?_
  exact ⟨⟨_, rfl, (KS.out.val (.head _)).v⟩, KS.out.below⟩

theorem up09_any (v : Value) (x : Rat) (w : World) (h : DyV w v x) (hx : 0 ≤ x) (hr : R 5000 5000 x) :
    Calls Try.prog 41 #[v] w fun e1 w' => (∃ v' u, e1 = .returned v' ∧ DyV w' v' u ∧ 0 ≤ u ∧ x ≤ u * u ∧ R 3000 3100 u) ∧ Below w.heap.size w w' := by
  obtain ⟨d, A, c, rfl, ha, hv⟩ := h.a
  subst hv
  obtain ⟨neg, n, e⟩ := d
  rcases ha.ok with ⟨h0, h1, h2⟩ | ⟨h1, _⟩
  · have h0 : n = 0 := h0
    have h1 : neg = false := h1
    have h2 : e = 0 := h2
    subst h0 h1 h2
    refine (up09_zero A c w ha).mono ?_
    rintro e w' ⟨⟨v', u, rfl, hv, rfl⟩, hb⟩
    refine ⟨⟨v', 0, rfl, hv, by decide +kernel, ?_, R_zero _ _⟩, hb⟩
    show Dy.zero.v ≤ 0 * 0
    rw [Dy.zero_v]; decide +kernel
  · have h1 : n % 2 = 1 := h1
    have hp : 0 < (n : Rat) * pw e := Rat.mul_pos (by have : (0 : Nat) < n := by omega
                                                      have := cast_lt.2 this; exact this) (pw_pos _)
    have hneg : neg = false := by
      cases neg
      · rfl
      · exfalso
        have hx : 0 ≤ sv true ((n : Rat) * pw e) := hx
        have : sv true ((n : Rat) * pw e) = -((n : Rat) * pw e) := by simp [sv]
        rw [this] at hx
        grind
    subst hneg
    have hv : Dy.v ⟨false, n, e⟩ = (n : Rat) * pw e := sv_false _
    rw [hv] at hr ⊢
    exact up09_pos n e A c w ha h1 hr

set_option maxRecDepth 100000 in
set_option maxHeartbeats 4000000 in
theorem norms09_any (n : Nat) (hn : 1 ≤ n ∧ n ≤ 6) (l : List DyE) (A : Option Addr) (ca : Nat) (w : World) (hl : DyL w A l ca) (hst : ∀ i, i ≤ n → st (n + 1) i < l.length) (hz : ∀ i, i ≤ n → 0 ≤ lv l (st (n + 1) i) ∧ R 5000 5000 (lv l (st (n + 1) i))) :
    Calls Try.prog 19 #[.int .i64 (n : Int), .slice A l.length ca] w fun e w' => (∃ C o c, e = .returned (.slice C (n + 1) c) ∧ DyL w' C o c ∧ o.length = n + 1 ∧ ∀ j (h : j < o.length), 0 ≤ o[j].1.v ∧ lv l (st (n + 1) j) ≤ o[j].1.v * o[j].1.v ∧ R 3000 3100 o[j].1.v) ∧ Below w.heap.size w w' := by
  have HEN := Lib.hid (fun i (hi : i ≤ n) W (h : Below w.heap.size w W) => entry09_diag n hn l A ca W (hl.below h) i hi (hst i hi))
  have HUP := Lib.hid (fun i (hi : i ≤ n) W v hv => up09_any v (lv l (st (n + 1) i)) W hv (hz i hi).1 (hz i hi).2)
  obtain ⟨hn1, hn6⟩ := hn
  clear hl hst hz
  generalize hF : (fun i => lv l (st (n + 1) i)) = F
  have hF2 : ∀ i, lv l (st (n + 1) i) = F i := fun i => by rw [← hF]
  simp only [hF2] at HEN HUP ⊢
  clear hF hF2
  go_enter Try.func19, Try.ntmps19
  go_wp2_with fail
  go_loopw [5, 6] (fun v i wr => ∃ (k : Nat) (o : List DyE), k ≤ n + 1 ∧ i = .int .i64 (k : Int) ∧ DyRow wr w.heap.size v o ∧ o.length = k ∧ (∀ j (h : j < o.length), 0 ≤ o[j].1.v ∧ F j ≤ o[j].1.v * o[j].1.v ∧ R 3000 3100 o[j].1.v) ∧ Below w.heap.size w wr) (fun _ i _ => n + 1 - (intOf i).toNat)
  case atStart => exact ⟨0, [], Nat.zero_le _, rfl, DyRow.nil _ _, rfl, fun j h => absurd h (Nat.not_lt_zero _), Below.refl _ _⟩
  case round =>
    obtain ⟨k, o, hk, rfl, hown, hol, hval, hbel⟩ := hrel
    by_cases hle : (k : Int) ≤ (n : Int)
    · have hkn : k ≤ n := by omega
      have HO := Lib.hid hown; have HOL := Lib.hid hol; have HVAL := Lib.hid hval; have HBL := Lib.hid hbel; have HSZ := Lib.hid hbel.size
      have H1 := Lib.hid (HEN.out k hkn _ hbel)
      have H2 := Lib.hid (HUP.out k hkn)
      clear hown hol hval hbel
      go_wp2_with fail
      refine H1.out.mono ?_
      rintro e w1 ⟨⟨v, rfl, hv⟩, hb1⟩
      have HV := Lib.hid hv; have HB1 := Lib.hid hb1
      clear hv hb1
      go_wp2_with fail
      refine (H2.out _ _ HV.out).mono ?_
      rintro e w2 ⟨⟨v, u, rfl, hv, hu0, hu1, hu2⟩, hb2⟩
      have HB2 := Lib.hid (Below.chain HB1.out hb2)
      have HU := Lib.hid (And.intro hu0 (And.intro hu1 hu2))
      obtain ⟨d1, A1, c1, rfl, ha1, hv1⟩ := hv.a
      have HA1 := Lib.hid ha1; have HV1 := Lib.hid hv1
      have hs2 : w.heap.size ≤ w2.heap.size := Nat.le_trans HSZ.out HB2.out.size
      unfold dyV
      clear hv hb2 hu0 hu1 hu2 ha1 hv1
      go_wp2_with (at_builtin; refine wpList_append_dy _ (by rfl) _ _ 30 Try.underlying30 (by rfl) w.heap.size _ o k HOL.out (by rfl) ((HO.out.call HB2.out).call ((Below.refl _ _).alloc (Nat.le_refl _) _)) w2.heap.size (by rfl) (d1, A1, c1) (heap_alloc_new _ _) (HA1.out.below ((Below.refl _ _).alloc (Nat.le_refl _) _)) (by rw [World.size_alloc]; omega) (by omega) ?_; intro g cap w3 hrow3 hb3)
      go_roundw
      case rel => exact ⟨k + 1, o ++ [(d1, A1, c1)], by omega, by go_num, hrow3, by rw [List.length_append, HOL.out]; rfl, fun j hj => by
        by_cases h1 : j < o.length
        · rw [List.getElem_append_left h1]; exact HVAL.out j h1
        · have hjk : j = k := by have := HOL.out; rw [List.length_append] at hj; simp at hj; omega
          subst hjk
          rw [List.getElem_append_right (by omega)]
          have e : o.length = j := HOL.out
          simp only [e, Nat.sub_self, List.getElem_cons_zero]
          rw [HV1.out]; exact HU.out, ((HBL.out.trans (HB2.out.mono HSZ.out)).alloc hs2 _).trans hb3⟩
      case measure => simp [intOf]; omega
    · obtain rfl : k = n + 1 := by omega
      obtain ⟨C, c3, rfl, hL⟩ := hown.list
      have HL := Lib.hid hL; have HVAL := Lib.hid hval; have HBL := Lib.hid hbel
      rw [hol]
      have HOL := Lib.hid hol
      clear hown hL hval hbel hol
      go_wp2
      go_ret
      exact ⟨⟨C, o, c3, rfl, HL.out, HOL.out, HVAL.out⟩, HBL.out⟩
end Go.Proofs.Ytdpmpfbbfknlmaa
