/- Contracts of package givens: Turn. -/
import Derived.Test.YtcoaachajdomcaaHa
import Derived.BigQuiet
import Derived.Laws.NewBlocks
import Derived.Deep.RegionWith
namespace Go.Proofs.Ytcoaachajdomcaa
open Go.RowKit Go.Shelf Lev

section
variable (w : World) (n : Nat) (c : Array Value) (t : TypeId) (i : Nat) (v : Value) (o : Obj)
theorem d1c : ((w.drewN n).alloc (.cells c t)).cell? ⟨w.heap.size, i, none⟩ = c[i]? := World.cell?_alloc_at c t _ i rfl
theorem d2c : (((w.drewN n).alloc (.cells c t)).alloc o).cell? ⟨w.heap.size, i, none⟩ = c[i]? := by
  rw [World.cell?_alloc_past _ _ _ (by simp), d1c]
theorem d3c : (((w.drewN n).alloc o).alloc (.cells c t)).cell? ⟨w.heap.size + 1, i, none⟩ = c[i]? := World.cell?_alloc_at c t _ i (by simp)
theorem d1f : ((w.drewN n).alloc (.cells c t)).frozen? ⟨w.heap.size, i, none⟩ = false := World.frozen?_alloc_at c t _ i rfl
theorem d2f : (((w.drewN n).alloc (.cells c t)).alloc o).frozen? ⟨w.heap.size, i, none⟩ = false := by
  rw [World.frozen?_alloc_past _ _ _ (by simp), d1f]
theorem d3f : (((w.drewN n).alloc o).alloc (.cells c t)).frozen? ⟨w.heap.size + 1, i, none⟩ = false := World.frozen?_alloc_at c t _ i (by simp)
theorem d1s : ((w.drewN n).alloc (.cells c t)).setCell ⟨w.heap.size, i, none⟩ v = (w.drewN n).alloc (.cells (c.setIfInBounds i v) t) := World.setCell_alloc_at c t _ i v rfl
theorem d2s : (((w.drewN n).alloc (.cells c t)).alloc o).setCell ⟨w.heap.size, i, none⟩ v = ((w.drewN n).alloc (.cells (c.setIfInBounds i v) t)).alloc o := by
  rw [World.setCell_alloc_past _ _ _ _ (by simp), d1s]
theorem d3s : (((w.drewN n).alloc o).alloc (.cells c t)).setCell ⟨w.heap.size + 1, i, none⟩ v = ((w.drewN n).alloc o).alloc (.cells (c.setIfInBounds i v) t) := World.setCell_alloc_at c t _ i v (by simp)
end

attribute [local go_sem] run_add_all run_sub_all run_mul_all run_quo_all run_store_float d1c d2c d3c d1f d2f d3f d1s d2s d3s

set_option maxRecDepth 100000 in
set_option maxHeartbeats 2000000 in
theorem gturn_any (c s x y : Nat) (w : World) :
    Calls Try.prog 24 #[.float .f64 c, .float .f64 s, .float .f64 x, .float .f64 y] w fun e w' => (∃ u v, e = .returned (.tuple #[.float .f64 u, .float .f64 v]) ∧ cn u = turnU c s x y ∧ cn v = turnV c s x y ∧ u < 18446744073709551616 ∧ v < 18446744073709551616) ∧ Below w.heap.size w w' := by
  go_enter Try.func24, Try.ntmps24
  go_wp2_with fail
  have e1 := Lib.hid (cn_arV .mul c x w)
  have e2 := Lib.hid (cn_arV .mul c y (w.drewN (arN .mul c x)))
  have e3 := Lib.hid (cn_arV .mul s y (w.drewN (arN .mul c x + arN .mul c y)))
  have e4 := Lib.hid (cn_arV .mul s x (w.drewN (arN .mul c x + arN .mul c y + arN .mul s y)))
  generalize arV .mul c x w = p at *
  generalize arV .mul c y (w.drewN (arN .mul c x)) = q at *
  generalize arV .mul s y (w.drewN (arN .mul c x + arN .mul c y)) = r at *
  generalize arV .mul s x (w.drewN (arN .mul c x + arN .mul c y + arN .mul s y)) = u at *
  have hb : Below w.heap.size w (((w.drewN (arN .mul c x + arN .mul c y + arN .mul s y + arN .mul s x)).alloc (.cells #[.float .f64 p, .float .f64 q] 56)).alloc (.cells #[.float .f64 r, .float .f64 u] 56)) := by
    repeat (first | exact Below.refl _ _ | refine Below.allocs ?_ _ | refine Below.drewNs ?_ _)
  have c1 := d2c w (arN .mul c x + arN .mul c y + arN .mul s y + arN .mul s x) #[.float .f64 p, .float .f64 q] 56 0 (.cells #[.float .f64 r, .float .f64 u] 56)
  have c2 := d2c w (arN .mul c x + arN .mul c y + arN .mul s y + arN .mul s x) #[.float .f64 p, .float .f64 q] 56 1 (.cells #[.float .f64 r, .float .f64 u] 56)
  have c3 := d3c w (arN .mul c x + arN .mul c y + arN .mul s y + arN .mul s x) #[.float .f64 r, .float .f64 u] 56 0 (.cells #[.float .f64 p, .float .f64 q] 56)
  have c4 := d3c w (arN .mul c x + arN .mul c y + arN .mul s y + arN .mul s x) #[.float .f64 r, .float .f64 u] 56 1 (.cells #[.float .f64 p, .float .f64 q] 56)
  generalize ((w.drewN (arN .mul c x + arN .mul c y + arN .mul s y + arN .mul s x)).alloc (.cells #[.float .f64 p, .float .f64 q] 56)).alloc (.cells #[.float .f64 r, .float .f64 u] 56) = X at *
  replace c1 : X.cell? ⟨w.heap.size, 0, none⟩ = some (.float .f64 p) := c1
  replace c2 : X.cell? ⟨w.heap.size, 1, none⟩ = some (.float .f64 q) := c2
  replace c3 : X.cell? ⟨w.heap.size + 1, 0, none⟩ = some (.float .f64 r) := c3
  replace c4 : X.cell? ⟨w.heap.size + 1, 1, none⟩ = some (.float .f64 u) := c4
  have B := Lib.hid hb
  clear hb
  go_region_with (fail)
  all_goals
    go_wp2
    go_ret2
    exact ⟨⟨_, _, rfl, by rw [cn_arV, arS_cn _ (.inl rfl), e1.out, e3.out]; rfl, by rw [cn_arV, arS_cn _ (.inr (.inl rfl)), e2.out, e4.out]; rfl, arV_lt _ _ _ _, arV_lt _ _ _ _⟩, Below.drewNs B.out _⟩

end Go.Proofs.Ytcoaachajdomcaa
