/- Contracts: factors that are unlike. -/
import Derived.Test.YtghoephmihogeaaRa
set_option linter.unusedVariables false
namespace Lev
theorem sameS_fin {x y : Nat} (hx : fin x) (hy : fin y) (h : sameS x y = true) : x = y := by
  unfold sameS at h
  rw [beq_iff_eq, cn_num (by unfold fin at hx; omega), cn_num (by unfold fin at hy; omega)] at h
  exact h
/-- Two factors that may be, and are not the same, differ in a number or in an entry. -/
theorem fct_differ {F G : Fct} (hF : F.ok = true) (hG : G.ok = true) (hne : F ≠ G) (hC : F.C = G.C) (hR : F.R = G.R) (hT : F.T = G.T) : F.xs.length = G.xs.length ∧ ∃ k, k < F.xs.length ∧ sameS (F.xs[k]?.getD 0) (G.xs[k]?.getD 0) = false := by
  have hl : F.xs.length = G.xs.length := by have h1 := ok_size hF; have h2 := ok_size hG; rw [hC] at h1; omega
  refine ⟨hl, ?_⟩
  rcases Classical.em (∃ k, k < F.xs.length ∧ sameS (F.xs[k]?.getD 0) (G.xs[k]?.getD 0) = false) with h | h
  · exact h
  · exfalso
    apply hne
    have hx : F.xs = G.xs := list_ext hl (fun p hp => by
      cases hs : sameS (F.xs[p]?.getD 0) (G.xs[p]?.getD 0)
      · exact absurd ⟨p, hp, hs⟩ h
      · exact sameS_fin (small_fin (check_small (C := F.C) (R := F.R) (T := F.T) hF hp)) (small_fin (check_small (C := G.C) (R := G.R) (T := G.T) hG (by omega))) hs)
    cases F; cases G; simp_all
end Lev
namespace Go.Proofs.Ytghoephmihogeaa
open Go.RowKit Go.Shelf Lev

set_option maxHeartbeats 1000000 in
theorem all_no (A A2 : Option Addr) (xs ys : List Nat) (c c2 : Nat) (w : World) (h : SlArg w A xs c) (h2 : SlArg w A2 ys c2) (hl : ys.length = xs.length) (q : Nat) (hq : q < xs.length) (hq2 : sameS (xs[q]?.getD 0) (ys[q]?.getD 0) = false) :
    Calls Try.prog 35 #[.slice A xs.length c, .slice A2 xs.length c2] w fun e w' => e = .returned (.bool false) ∧ ∃ n, w' = w.drewN n := by
  have hl63 : xs.length ≤ 9223372036854775807 := Nat.le_trans h.cap h.room
  have HL := Lib.hid hl; have HQ2 := Lib.hid hq2
  clear hl hq2
  go_enter Try.func35, Try.ntmps35
  go_wp2
  go_loopw [5] (fun i wr => ∃ j n : Nat, i = .int .i64 (j : Int) ∧ j ≤ q ∧ wr = w.drewN n) (fun i _ => xs.length - (intOf i).toNat)
  case atStart => exact ⟨0, 0, rfl, Nat.zero_le _, rfl⟩
  case round =>
    obtain ⟨j, n, rfl, hj, rfl⟩ := hrel
    have hlt : (j : Int) < (xs.length : Int) := by omega
    obtain ⟨b, off, rfl, hb, hc⟩ := h.reads.2 (by omega)
    obtain ⟨b2, off2, rfl, hb2, hc2⟩ := h2.reads.2 (by have := HL.out; omega)
    have hcj := hc j (by omega)
    have hcj2 := hc2 j (by have := HL.out; omega)
    have hv := h.reads.lt j
    have hv2 := h2.reads.lt j
    have hD1 : (w.drewN n).cell? ⟨b, off + j, none⟩ = some (.float .f64 (xs[j]?.getD 0)) := by rw [World.cell?_drewN]; exact hcj
    have hD2 : (w.drewN n).cell? ⟨b2, off2 + j, none⟩ = some (.float .f64 (ys[j]?.getD 0)) := by rw [World.cell?_drewN]; exact hcj2
    have hsm := fun W => rsame_any (xs[j]?.getD 0) (ys[j]?.getD 0) hv hv2 W
    have hjq : j = q → sameS (xs[j]?.getD 0) (ys[j]?.getD 0) = false := fun e => by rw [e]; exact HQ2.out
    have HJQ := Lib.hid hjq
    have HH := Lib.hid h; have HH2 := Lib.hid h2
    clear hv hv2 hcj hcj2 hc hc2 hjq h h2
    generalize xs[j]?.getD 0 = x at *
    generalize ys[j]?.getD 0 = y at *
    obtain ⟨W, hW⟩ : ∃ W, W = w.drewN n := ⟨_, rfl⟩
    rw [← hW] at hD1 hD2 ⊢
    have KW := Lib.hid hW; clear hW
    cases hs : sameS x y
    · rw [hs] at hsm
      have HS := Lib.hid hsm
      clear hsm hs
      go_wp2
      go_quiet (first | (go_at_call 15; exact q_of (HS.out _)))
      go_wp2
      go_ret
      exact ⟨rfl, n + nq, by rw [KW.out, World.drewN_drewN]⟩
    · rw [hs] at hsm
      have HS := Lib.hid hsm
      have hjlt : j < q := by
        rcases (by omega : j < q ∨ j = q) with h1 | h1
        · exact h1
        · exact absurd (HJQ.out h1) (by rw [hs]; decide)
      clear hsm hs
      go_wp2
      go_quiet (first | (go_at_call 15; exact q_of (HS.out _)))
      go_wp2
      go_roundw
      case rel => exact ⟨j + 1, n + nq, by go_num, by omega, by rw [KW.out, World.drewN_drewN]⟩
      case measure => simp [intOf]; omega

set_option maxRecDepth 100000 in
set_option maxHeartbeats 1000000 in
theorem fac_no (F G : Fct) (A A2 : Option Addr) (c c2 : Nat) (w : World) (h : SlArg w A F.xs c) (h2 : SlArg w A2 G.xs c2) (hF : F.ok = true) (hG : G.ok = true) (hne : F ≠ G) :
    Calls Try.prog 20 #[facV F.C A F.xs.length c F.R F.T, facV G.C A2 G.xs.length c2 G.R G.T] w fun e w' => e = .returned (.bool false) ∧ Below w.heap.size w w' := by
  have hB : ∀ o o2 : Obj, Below w.heap.size w ((w.alloc o).alloc o2) := fun o o2 => ((Below.refl _ _).alloc (Nat.le_refl _) _).alloc (by simp) _
  have HB := Lib.hid hB
  unfold facV
  by_cases hC : F.C = G.C
  · by_cases hR : F.R = G.R
    · by_cases hT : F.T = G.T
      · obtain ⟨hl, k, hk, hs⟩ := fct_differ hF hG hne hC hR hT
        have HA := Lib.hid (fun o o2 => all_no A A2 F.xs G.xs c c2 _ (h.below (hB o o2)) (h2.below (hB o o2)) hl.symm k hk hs)
        rw [← hC, ← hR, ← hT, ← hl]
        clear h h2 hF hG hne hl hs hC hR hT hB hk
        go_enter Try.func20, Try.ntmps20
        go_wp2_with (go_at_call 35; refine (HA.out _ _).mono ?_; rintro e w' ⟨rfl, n, rfl⟩)
        go_ret
        exact ⟨rfl, (HB.out _ _).drewN _⟩
      · have q1 : (F.C == G.C) = true := by rw [beq_iff_eq]; exact hC
        have q2 : (F.R == G.R) = true := by rw [beq_iff_eq]; exact hR
        have q3 : (F.T == G.T) = false := by rw [beq_eq_false_iff_ne]; exact hT
        clear h h2 hF hG hne hC hR hT hB
        go_enter Try.func20, Try.ntmps20
        go_wp2
        go_ret
        exact ⟨rfl, HB.out _ _⟩
    · have q1 : (F.C == G.C) = true := by rw [beq_iff_eq]; exact hC
      have q2 : (F.R == G.R) = false := by rw [beq_eq_false_iff_ne]; exact hR
      clear h h2 hF hG hne hC hR hB
      go_enter Try.func20, Try.ntmps20
      go_wp2
      go_ret
      exact ⟨rfl, HB.out _ _⟩
  · have q1 : (F.C == G.C) = false := by rw [beq_eq_false_iff_ne]; exact hC
    clear h h2 hF hG hne hC hB
    go_enter Try.func20, Try.ntmps20
    go_wp2
    go_ret
    exact ⟨rfl, HB.out _ _⟩

end Go.Proofs.Ytghoephmihogeaa
