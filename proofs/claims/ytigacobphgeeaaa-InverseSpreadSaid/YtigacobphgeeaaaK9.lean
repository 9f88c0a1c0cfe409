/- Plain texts, laid as one. -/
import Derived.Test.YtigacobphgeeaaaC9
import Derived.Deep.RegionHeld3
import Derived.Deep.DeepCutAuto
/- live of layer 7. -/
namespace Lev
def fN : Fct := ⟨2, [0, 0, 0, 0, 0, 0], 0, 0⟩
def gN : Fct := ⟨2, [0, 0, 0, 4617315517961601024, 13841813454723219456, 0], 0, 0⟩
theorem Fct.eq {f g : Fct} (h1 : f.C = g.C) (h2 : f.xs = g.xs) (h3 : f.R = g.R) (h4 : f.T = g.T) : f = g := by
  cases f; cases g; simp only at h1 h2 h3 h4; subst h1 h2 h3 h4; rfl
theorem lw1 : newE 2 = 0 := by decide +kernel
theorem lw2 : newS 2 = fN := Fct.eq (by decide +kernel) (by decide +kernel) (by decide +kernel) (by decide +kernel)
theorem lw3 : newE 7 = 1 := by decide +kernel
theorem lw4 : newS 7 = Fct.zero := Fct.eq (by decide +kernel) (by decide +kernel) (by decide +kernel) (by decide +kernel)
theorem lw5 : atI 2 1 2 = 4 := by decide +kernel
theorem lw6 : atB 2 1 2 = true := by decide +kernel
theorem lw7 : atI 2 2 1 = 0 := by decide +kernel
theorem lw8 : atB 2 2 1 = false := by decide +kernel
theorem lw9 : setB fN 1 [4621256167635550208, 4617315517961601024, 13841813454723219456] = true := by decide +kernel
theorem lw10 : setF fN 1 [4621256167635550208, 4617315517961601024, 13841813454723219456] = gN := Fct.eq (by decide +kernel) (by decide +kernel) (by decide +kernel) (by decide +kernel)
theorem lw11 : setB fN 1 [0, 13840687554816376832, 4618441417868443648] = false := by decide +kernel
theorem lw12 : setF fN 1 [0, 13840687554816376832, 4618441417868443648] = Fct.zero := Fct.eq (by decide +kernel) (by decide +kernel) (by decide +kernel) (by decide +kernel)
theorem lw13 : setB fN 1 [0, 9223372036854775808, 4618441417868443648] = false := by decide +kernel
theorem lw14 : setF fN 1 [0, 9223372036854775808, 4618441417868443648] = Fct.zero := Fct.eq (by decide +kernel) (by decide +kernel) (by decide +kernel) (by decide +kernel)
theorem lw15 : lineS gN 1 = [0, 4617315517961601024, 13841813454723219456] := by decide +kernel
theorem lw16 : getS gN 1 2 = 13841813454723219456 := by decide +kernel
theorem lw17 : getS gN 2 1 = 0 := by decide +kernel
theorem lw18 : checkS 2 fN.xs 0 0 = true := by decide +kernel
theorem lw19 : checkS 0 [] 0 0 = false := by decide +kernel
theorem lw20 : sizeI 2 = 6 := by decide +kernel
theorem lw21 : sizeI 0 = 0 := by decide +kernel
end Lev
namespace Go.Proofs.Ytigacobphgeeaaa
open Go.RowKit Go.Shelf Lev

attribute [local go_sem] order_lt order_gt order_eq order_ne flt_or_feq flt_or_feq'

theorem slice3 {W : World} {g : Nat} {t : TypeId} {x y z : Nat} (h : Bk W g t #[.float .f64 x, .float .f64 y, .float .f64 z]) (hx : x < 18446744073709551616) (hy : y < 18446744073709551616) (hz : z < 18446744073709551616) : SlArg W (some ⟨g, 0, none⟩) [x, y, z] 3 := by
  refine ⟨⟨fun u hu => ?_, fun _ => ⟨g, 0, rfl, h.lt, fun j hj => ?_⟩⟩, Nat.le_refl 3, by decide⟩
  · simp at hu; rcases hu with rfl | rfl | rfl <;> assumption
  · rw [Nat.zero_add, h.cell]
    have : j < 3 := hj
    rcases (by omega : j = 0 ∨ j = 1 ∨ j = 2) with rfl | rfl | rfl <;> rfl

end Go.Proofs.Ytigacobphgeeaaa

/- The walk of TriSets. -/
namespace Go.Proofs.Ytigacobphgeeaaa
open Go.RowKit Go.Shelf Lev

theorem Below.add {a w w1 : World} (h : Below a.heap.size a w) (hb : Below w.heap.size w w1) : Below a.heap.size a w1 := Below.chain h hb

end Go.Proofs.Ytigacobphgeeaaa

/- The walk of TriLines. -/
namespace Go.Proofs.Ytigacobphgeeaaa
open Go.RowKit Go.Shelf Lev

theorem bk_stored4 {w : World} {g q : Nat} {t : TypeId} {cs : Array Value} (h : Bk w q t cs) (hne : q ≠ g) (v0 v1 v2 v3 : Value) : Bk (stored4 w g v0 v1 v2 v3) q t cs := by
  unfold stored4
  exact (((h.other (p := ⟨g, 0, none⟩) hne v0).other (p := ⟨g, 1, none⟩) hne v1).other (p := ⟨g, 2, none⟩) hne v2).other (p := ⟨g, 3, none⟩) hne v3

end Go.Proofs.Ytigacobphgeeaaa

/- Parts of slices of floats. -/
namespace Go.Proofs.Ytigacobphgeeaaa
open Go.RowKit Lev

/-- The address of what lies behind the first k elements. -/
def cutA (L : Option Addr) (c k : Nat) : Option Addr := if c = k then L else L.map (·.add k)

theorem addr_add (b off k : Nat) : (⟨b, off, none⟩ : Addr).add k = ⟨b, off + k, none⟩ := by
  unfold Addr.add; split
  · subst_vars; rfl
  · rfl
theorem addr_add0 (L : Option Addr) : L.map (·.add 0) = L := by
  cases L with
  | none => rfl
  | some a => simp [Addr.add]

theorem run_cut_low (L : Option Addr) (n c k : Nat) (hk : k ≤ n) (_hn : n ≤ 9223372036854775807) (w : World) : (Instr.slice 22 (.slice L n c) (some (.int .i64 (k : Int))) none none).run Try.prog w = .ok (.slice (cutA L c k) (n - k) (c - k)) w := by
  have h := run_slice_l (P := Try.prog) (w := w) 22 L n c (by kernel_rfl) .i64 (k : Int) (by omega) (by omega)
  rw [h]
  have hs : (sizeOf (Program.elem Try.prog 22)).run Try.prog w = .ok 1 w := by kernel_rfl
  rw [hs]
  simp only [Result.andThen, sliced, Int.toNat_natCast, Nat.mul_one, cutA]
theorem run_cut_high (L : Option Addr) (n c k : Nat) (hk : k ≤ c) (_hc : c ≤ 9223372036854775807) (w : World) : (Instr.slice 22 (.slice L n c) none (some (.int .i64 (k : Int))) none).run Try.prog w = .ok (.slice L k c) w := by
  have h := run_slice_h (P := Try.prog) (w := w) 22 L n c (by kernel_rfl) .i64 (k : Int) (by omega) (by omega)
  rw [h]
  have hs : (sizeOf (Program.elem Try.prog 22)).run Try.prog w = .ok 1 w := by kernel_rfl
  rw [hs]
  simp only [Result.andThen, sliced, Int.toNat_natCast, Nat.zero_mul, addr_add0, ite_self, Nat.sub_zero]

theorem SlArg.take {w : World} {L : Option Addr} {l : List Nat} {c : Nat} (h : SlArg w L l c) {k : Nat} (hk : k ≤ l.length) : SlArg w L (l.take k) c := by
  have hl : (l.take k).length = k := by rw [List.length_take]; omega
  refine ⟨⟨fun x hx => h.reads.1 x (List.mem_of_mem_take hx), fun hp => ?_⟩, by rw [hl]; exact Nat.le_trans hk h.cap, h.room⟩
  rw [hl] at hp
  obtain ⟨b, off, e, hb, hc⟩ := h.reads.2 (by omega)
  refine ⟨b, off, e, hb, fun j hj => ?_⟩
  rw [hl] at hj
  rw [List.getElem?_take_of_lt hj]
  exact hc j (by omega)
theorem SlArg.drop {w : World} {L : Option Addr} {l : List Nat} {c : Nat} (h : SlArg w L l c) {k : Nat} (hk : k ≤ l.length) : SlArg w (cutA L c k) (l.drop k) (c - k) := by
  have hl : (l.drop k).length = l.length - k := List.length_drop
  refine ⟨⟨fun x hx => h.reads.1 x (List.mem_of_mem_drop hx), fun hp => ?_⟩, by rw [hl]; have := h.cap; omega, by have := h.room; omega⟩
  rw [hl] at hp
  obtain ⟨b, off, e, hb, hc⟩ := h.reads.2 (by omega)
  subst e
  have hcap := h.cap
  refine ⟨b, off + k, ?_, hb, fun j hj => ?_⟩
  · unfold cutA
    rw [if_neg (by omega)]
    show some (Addr.add _ _) = _
    rw [addr_add]
  · rw [hl] at hj
    rw [List.getElem?_drop, Nat.add_assoc]
    exact hc (k + j) (by omega)

end Go.Proofs.Ytigacobphgeeaaa
