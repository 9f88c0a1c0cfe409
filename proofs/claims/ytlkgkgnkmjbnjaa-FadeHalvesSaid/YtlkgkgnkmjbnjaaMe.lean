/- Parts of slices of floats. -/
import Derived.Test.YtlkgkgnkmjbnjaaPd
namespace Go.Proofs.Ytlkgkgnkmjbnjaa
open Go.RowKit Lev

/-- The address of what lies behind the first k elements. -/
def cutA (L : Option Addr) (c k : Nat) : Option Addr := if c = k then L else L.map (·.add k)

theorem addr_add (b off k : Nat) : (⟨b, off, none⟩ : Addr).add k = ⟨b, off + k, none⟩ := by
  unfold Addr.add; split
  · subst_vars; rfl
  · rfl
theorem addr_add0 (L : Option Addr) : L.map (·.add 0) = L := by
  cases L with
  | none => rfl
  | some a => simp [Addr.add]

theorem run_cut_low (L : Option Addr) (n c k : Nat) (hk : k ≤ n) (_hn : n ≤ 9223372036854775807) (w : World) : (Instr.slice 22 (.slice L n c) (some (.int .i64 (k : Int))) none none).run Try.prog w = .ok (.slice (cutA L c k) (n - k) (c - k)) w := by
  have h := run_slice_l (P := Try.prog) (w := w) 22 L n c (by kernel_rfl) .i64 (k : Int) (by omega) (by omega)
  rw [h]
  have hs : (sizeOf (Program.elem Try.prog 22)).run Try.prog w = .ok 1 w := by kernel_rfl
  rw [hs]
  simp only [Result.andThen, sliced, Int.toNat_natCast, Nat.mul_one, cutA]
theorem run_cut_high (L : Option Addr) (n c k : Nat) (hk : k ≤ c) (_hc : c ≤ 9223372036854775807) (w : World) : (Instr.slice 22 (.slice L n c) none (some (.int .i64 (k : Int))) none).run Try.prog w = .ok (.slice L k c) w := by
  have h := run_slice_h (P := Try.prog) (w := w) 22 L n c (by kernel_rfl) .i64 (k : Int) (by omega) (by omega)
  rw [h]
  have hs : (sizeOf (Program.elem Try.prog 22)).run Try.prog w = .ok 1 w := by kernel_rfl
  rw [hs]
  simp only [Result.andThen, sliced, Int.toNat_natCast, Nat.zero_mul, addr_add0, ite_self, Nat.sub_zero]

theorem SlArg.take {w : World} {L : Option Addr} {l : List Nat} {c : Nat} (h : SlArg w L l c) {k : Nat} (hk : k ≤ l.length) : SlArg w L (l.take k) c := by
  have hl : (l.take k).length = k := by rw [List.length_take]; omega
  refine ⟨⟨fun x hx => h.reads.1 x (List.mem_of_mem_take hx), fun hp => ?_⟩, by rw [hl]; exact Nat.le_trans hk h.cap, h.room⟩
  rw [hl] at hp
  obtain ⟨b, off, e, hb, hc⟩ := h.reads.2 (by omega)
  refine ⟨b, off, e, hb, fun j hj => ?_⟩
  rw [hl] at hj
  rw [List.getElem?_take_of_lt hj]
  exact hc j (by omega)
theorem SlArg.drop {w : World} {L : Option Addr} {l : List Nat} {c : Nat} (h : SlArg w L l c) {k : Nat} (hk : k ≤ l.length) : SlArg w (cutA L c k) (l.drop k) (c - k) := by
  have hl : (l.drop k).length = l.length - k := List.length_drop
  refine ⟨⟨fun x hx => h.reads.1 x (List.mem_of_mem_drop hx), fun hp => ?_⟩, by rw [hl]; have := h.cap; omega, by have := h.room; omega⟩
  rw [hl] at hp
  obtain ⟨b, off, e, hb, hc⟩ := h.reads.2 (by omega)
  subst e
  have hcap := h.cap
  refine ⟨b, off + k, ?_, hb, fun j hj => ?_⟩
  · unfold cutA
    rw [if_neg (by omega)]
    show some (Addr.add _ _) = _
    rw [addr_add]
  · rw [hl] at hj
    rw [List.getElem?_drop, Nat.add_assoc]
    exact hc (k + j) (by omega)

end Go.Proofs.Ytlkgkgnkmjbnjaa
