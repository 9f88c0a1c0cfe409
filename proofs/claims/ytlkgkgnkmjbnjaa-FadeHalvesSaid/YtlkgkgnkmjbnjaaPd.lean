/- The walk of TriLines. -/
import Derived.Test.YtlkgkgnkmjbnjaaPc
namespace Go.Proofs.Ytlkgkgnkmjbnjaa
open Go.RowKit Go.Shelf Lev

theorem bk_stored4 {w : World} {g q : Nat} {t : TypeId} {cs : Array Value} (h : Bk w q t cs) (hne : q ≠ g) (v0 v1 v2 v3 : Value) : Bk (stored4 w g v0 v1 v2 v3) q t cs := by
  unfold stored4
  exact (((h.other (p := ⟨g, 0, none⟩) hne v0).other (p := ⟨g, 1, none⟩) hne v1).other (p := ⟨g, 2, none⟩) hne v2).other (p := ⟨g, 3, none⟩) hne v3

end Go.Proofs.Ytlkgkgnkmjbnjaa
