/- The document's answer for fading once. -/
import Derived.Test.YtdpmpfbbfknlmaaC9
import Derived.Test.YtdpmpfbbfknlmaaDf9
import Derived.Deep.RegionLaw
import Derived.Deep.AppendLies
import Derived.OneCell
namespace Go.Proofs.Ytdpmpfbbfknlmaa
open Go.RowKit Go.Shelf Lev

end Go.Proofs.Ytdpmpfbbfknlmaa
