/- Lists and factors that are the same: the document's answer. -/
import Derived.Test.YtghoephmihogeaaCd
namespace Go.Proofs.Ytghoephmihogeaa
open Go.RowKit Go.Shelf Lev

theorem sameS_self (x : Nat) : sameS x x = true := by unfold sameS; exact beq_self_eq_true _

set_option maxHeartbeats 400000 in
theorem all_same (A A2 : Option Addr) (xs : List Nat) (c c2 : Nat) (w : World) (h : SlArg w A xs c) (h2 : SlArg w A2 xs c2) :
    Calls Try.prog 35 #[.slice A xs.length c, .slice A2 xs.length c2] w fun e w' => e = .returned (.bool true) ∧ ∃ n, w' = w.drewN n := by
  have hl : xs.length ≤ 9223372036854775807 := Nat.le_trans h.cap h.room
  go_enter Try.func35, Try.ntmps35
  go_wp2
  go_loopw [5] (fun i wr => ∃ j n : Nat, i = .int .i64 (j : Int) ∧ j ≤ xs.length ∧ wr = w.drewN n) (fun i _ => xs.length - (intOf i).toNat)
  case atStart => exact ⟨0, 0, rfl, Nat.zero_le _, rfl⟩
  case round =>
    obtain ⟨j, n, rfl, hj, rfl⟩ := hrel
    by_cases hlt : (j : Int) < (xs.length : Int)
    · obtain ⟨b, off, rfl, hb, hc⟩ := h.reads.2 (by omega)
      obtain ⟨b2, off2, rfl, hb2, hc2⟩ := h2.reads.2 (by omega)
      have hcj := hc j (by omega)
      have hcj2 := hc2 j (by omega)
      have hv : xs[j]?.getD 0 < 18446744073709551616 := by
        rw [List.getElem?_eq_getElem (by omega)]; exact h.reads.1 _ (List.getElem_mem _)
      have HV := Lib.hid hv; clear hv
      have hss := sameS_self (xs[j]?.getD 0)
      have hD1 : (w.drewN n).cell? ⟨b, off + j, none⟩ = some (.float .f64 (xs[j]?.getD 0)) := by rw [World.cell?_drewN]; exact hcj
      have hD2 : (w.drewN n).cell? ⟨b2, off2 + j, none⟩ = some (.float .f64 (xs[j]?.getD 0)) := by rw [World.cell?_drewN]; exact hcj2
      generalize xs[j]?.getD 0 = x at *
      obtain ⟨W, hW⟩ : ∃ W, W = w.drewN n := ⟨_, rfl⟩
      rw [← hW] at hD1 hD2 ⊢
      have KW := Lib.hid hW; clear hW
      go_wp2
      go_quiet (first | (go_at_call 15; exact q_of (rsame_any _ _ HV.out HV.out _)))
      go_wp2
      go_roundw
      case rel => exact ⟨j + 1, n + nq, by go_num, by omega, by rw [KW.out, World.drewN_drewN]⟩
      case measure => simp [intOf]; omega
    · go_wp2
      go_ret
      exact ⟨rfl, n, rfl⟩

/-- Two factors that are the same. -/
theorem fac_same (f : Fct) (A A2 : Option Addr) (c c2 : Nat) (w : World) (h : SlArg w A f.xs c) (h2 : SlArg w A2 f.xs c2) :
    Calls Try.prog 20 #[facV f.C A f.xs.length c f.R f.T, facV f.C A2 f.xs.length c2 f.R f.T] w fun e w' => e = .returned (.bool true) ∧ Below w.heap.size w w' := by
  unfold facV
  go_enter Try.func20, Try.ntmps20
  have hB : ∀ o o2 : Obj, Below w.heap.size w ((w.alloc o).alloc o2) := fun o o2 => ((Below.refl _ _).alloc (Nat.le_refl _) _).alloc (by simp) _
  go_wp2_with (go_at_call 35; refine (all_same A A2 f.xs c c2 _ (h.below (hB _ _)) (h2.below (hB _ _))).mono ?_; rintro e w' ⟨rfl, n, rfl⟩)
  go_ret
  exact ⟨rfl, (hB _ _).drewN _⟩

end Go.Proofs.Ytghoephmihogeaa
