/- live of layer 7. -/
import Derived.Test.YtlkgkgnkmjbnjaaMd
import Derived.Deep.RegionHeld3
import Derived.Deep.DeepCutAuto
namespace Lev
def fN : Fct := ⟨2, [0, 0, 0, 0, 0, 0], 0, 0⟩
def gN : Fct := ⟨2, [0, 0, 0, 4617315517961601024, 13841813454723219456, 0], 0, 0⟩
theorem Fct.eq {f g : Fct} (h1 : f.C = g.C) (h2 : f.xs = g.xs) (h3 : f.R = g.R) (h4 : f.T = g.T) : f = g := by
  cases f; cases g; simp only at h1 h2 h3 h4; subst h1 h2 h3 h4; rfl
theorem lw1 : newE 2 = 0 := by decide +kernel
theorem lw2 : newS 2 = fN := Fct.eq (by decide +kernel) (by decide +kernel) (by decide +kernel) (by decide +kernel)
theorem lw3 : newE 7 = 1 := by decide +kernel
theorem lw4 : newS 7 = Fct.zero := Fct.eq (by decide +kernel) (by decide +kernel) (by decide +kernel) (by decide +kernel)
theorem lw5 : atI 2 1 2 = 4 := by decide +kernel
theorem lw6 : atB 2 1 2 = true := by decide +kernel
theorem lw7 : atI 2 2 1 = 0 := by decide +kernel
theorem lw8 : atB 2 2 1 = false := by decide +kernel
theorem lw9 : setB fN 1 [4621256167635550208, 4617315517961601024, 13841813454723219456] = true := by decide +kernel
theorem lw10 : setF fN 1 [4621256167635550208, 4617315517961601024, 13841813454723219456] = gN := Fct.eq (by decide +kernel) (by decide +kernel) (by decide +kernel) (by decide +kernel)
theorem lw11 : setB fN 1 [0, 13840687554816376832, 4618441417868443648] = false := by decide +kernel
theorem lw12 : setF fN 1 [0, 13840687554816376832, 4618441417868443648] = Fct.zero := Fct.eq (by decide +kernel) (by decide +kernel) (by decide +kernel) (by decide +kernel)
theorem lw13 : setB fN 1 [0, 9223372036854775808, 4618441417868443648] = false := by decide +kernel
theorem lw14 : setF fN 1 [0, 9223372036854775808, 4618441417868443648] = Fct.zero := Fct.eq (by decide +kernel) (by decide +kernel) (by decide +kernel) (by decide +kernel)
theorem lw15 : lineS gN 1 = [0, 4617315517961601024, 13841813454723219456] := by decide +kernel
theorem lw16 : getS gN 1 2 = 13841813454723219456 := by decide +kernel
theorem lw17 : getS gN 2 1 = 0 := by decide +kernel
theorem lw18 : checkS 2 fN.xs 0 0 = true := by decide +kernel
theorem lw19 : checkS 0 [] 0 0 = false := by decide +kernel
theorem lw20 : sizeI 2 = 6 := by decide +kernel
theorem lw21 : sizeI 0 = 0 := by decide +kernel
end Lev
namespace Go.Proofs.Ytlkgkgnkmjbnjaa
open Go.RowKit Go.Shelf Lev

attribute [local go_sem] order_lt order_gt order_eq order_ne flt_or_feq flt_or_feq'

theorem slice3 {W : World} {g : Nat} {t : TypeId} {x y z : Nat} (h : Bk W g t #[.float .f64 x, .float .f64 y, .float .f64 z]) (hx : x < 18446744073709551616) (hy : y < 18446744073709551616) (hz : z < 18446744073709551616) : SlArg W (some ⟨g, 0, none⟩) [x, y, z] 3 := by
  refine ⟨⟨fun u hu => ?_, fun _ => ⟨g, 0, rfl, h.lt, fun j hj => ?_⟩⟩, Nat.le_refl 3, by decide⟩
  · simp at hu; rcases hu with rfl | rfl | rfl <;> assumption
  · rw [Nat.zero_add, h.cell]
    have : j < 3 := hj
    rcases (by omega : j = 0 ∨ j = 1 ∨ j = 2) with rfl | rfl | rfl <;> rfl

end Go.Proofs.Ytlkgkgnkmjbnjaa
