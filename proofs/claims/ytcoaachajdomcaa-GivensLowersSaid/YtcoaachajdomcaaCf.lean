/- Contracts of package tri: At, New, Get. -/
import Derived.Test.YtcoaachajdomcaaCe
import Derived.Test.YtcoaachajdomcaaT
import Derived.Test.YtcoaachajdomcaaMc
namespace Go.Proofs.Ytcoaachajdomcaa
open Go.RowKit Go.Shelf Lev

theorem info_f64' : (Try.prog.info? 22).map (fun i => (i.zero, i.size, i.bytes)) = some (some (.float .f64 0), 1, 8) := by kernel_rfl

end Go.Proofs.Ytcoaachajdomcaa
