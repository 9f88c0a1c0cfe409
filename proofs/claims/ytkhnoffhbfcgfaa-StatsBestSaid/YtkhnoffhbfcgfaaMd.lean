/- More small words: what lay below is kept, step by step. -/
import Derived.Test.YtkhnoffhbfcgfaaCj
namespace Go.Proofs.Ytkhnoffhbfcgfaa
open Go.RowKit Lev
theorem Below.allocs {a w : World} (h : Below a.heap.size a w) (o : Obj) : Below a.heap.size a (w.alloc o) := h.alloc h.size o
theorem Below.sets {a w : World} (h : Below a.heap.size a w) {p : Addr} (hp : a.heap.size ≤ p.block) (u : Value) : Below a.heap.size a (w.setCell p u) := h.setCell hp u
theorem Below.drews {a w : World} (h : Below a.heap.size a w) : Below a.heap.size a w.drew := h.drew
theorem Below.drewNs {a w : World} (h : Below a.heap.size a w) (n : Nat) : Below a.heap.size a (w.drewN n) := h.drewN n
theorem Keep.drew {w W : World} {L M} (h : Keep w W L M) : Keep w W.drew L M := h.call ⟨rfl, rfl, rfl, Nat.le_refl _, fun _ _ => rfl⟩
theorem Bk.all4 {w : World} {g : Nat} {t : TypeId} {v0 v1 v2 v3 : Value} (h : Bk w g t #[v0, v1, v2, v3]) : (w.cell? ⟨g, 0, none⟩ = some v0 ∧ w.cell? ⟨g, 1, none⟩ = some v1 ∧ w.cell? ⟨g, 2, none⟩ = some v2 ∧ w.cell? ⟨g, 3, none⟩ = some v3) ∧
    w.frozen? ⟨g, 0, none⟩ = false ∧ w.frozen? ⟨g, 1, none⟩ = false ∧ w.frozen? ⟨g, 2, none⟩ = false ∧ w.frozen? ⟨g, 3, none⟩ = false := ⟨h.c4, h.f4⟩
end Go.Proofs.Ytkhnoffhbfcgfaa
