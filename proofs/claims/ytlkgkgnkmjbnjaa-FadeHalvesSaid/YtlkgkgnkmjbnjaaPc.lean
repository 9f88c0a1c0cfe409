/- The walk of TriSets. -/
import Derived.Test.YtlkgkgnkmjbnjaaCk
namespace Go.Proofs.Ytlkgkgnkmjbnjaa
open Go.RowKit Go.Shelf Lev

theorem Below.add {a w w1 : World} (h : Below a.heap.size a w) (hb : Below w.heap.size w w1) : Below a.heap.size a w1 := Below.chain h hb

end Go.Proofs.Ytlkgkgnkmjbnjaa
