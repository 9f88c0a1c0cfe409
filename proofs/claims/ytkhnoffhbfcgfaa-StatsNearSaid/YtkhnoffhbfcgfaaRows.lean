/-
  No cell of these rows narrows 'for every input' (looked for: loops, veiled, ifaces, maps, wideKeys, modest, calm, conditions, laid).
  DERIVED. THE GIVEN ROWS OF THIS SEAT. 6 by the template 'for every input the law returns true; each argument reads behind the call as it read before'; 0 by the template 'total and deterministic' (their statements: YtkhnoffhbfcgfaaTotals.lean).
  GIVEN WITH THE SEED: the statements are not yours to turn. If you find one false, say at which input.
  Laid BY PROGRAM, IN A SANDBOX (cutbox-rows.mjs): the forced cells as the released guide's own fill.sh prints them over the translation 19660bae74db32cc… (all of the seat's roots in one cut). By AI agents, Wed Nov 11 2026. No macro, syntax, notation, axiom, sorry.
-/
import Derived.Test.YtkhnoffhbfcgfaaChecked
import GoSem.Claim
import GoSem.ClaimJoined
import GoSem.ClaimMapViews
import Derived.JoinedTies
import Derived.KernelRfl
namespace Go.Proofs.Ytkhnoffhbfcgfaa
/- THE CELL 'sum', in the pinned program and in every row, IS THE sha256 OF THE DUMP (.gsa) THAT YtkhnoffhbfcgfaaProg.lean LOADS. Nothing in Lean hashes anything: it is a label: what it is worth is what the hold of that sum in a sandbox is worth. -/
noncomputable def Try.pinned : Pinned := { name := "ytkhnoffhbfcgfaa", sum := "19660bae74db32cc6d6569e0b49c2820dba66888fd461f14b70fc2508f78c9db", checked := Try.checked }
namespace Rows
def none {H : Type} : Left H := { results := [], args := [] }

/-- 'levellinglaw17.StatsTells': WHATEVER THE INPUT: true; the input reads as it did. -/
def statsTellsSpec : ChangeSpec := { name := "statsTells", fn := fun _ => fun
  | [d] => { results := [.lit (.bool true)], args := [d] }
  | _ => none }
def statsTellsRow : OpenClaim := { program := "ytkhnoffhbfcgfaa", sum := "19660bae74db32cc6d6569e0b49c2820dba66888fd461f14b70fc2508f78c9db", func := "levelling/levellinglaw17.StatsTells", spec := "statsTells", inPlace := ["math.Float64bits", "math.Float64frombits", "math.sqrt"], unfollowed := true, recurses := true, apart := false }
def StatsTellsSaid : Prop := statsTellsRow.holds Try.pinned (OpenSpec.ofChange statsTellsSpec)

/-- ITS FALSE NEIGHBOUR: 'it returns false'. Refute it at one input. -/
def statsTellsWrong : ChangeSpec := { name := "statsTells", fn := fun _ => fun
  | [d] => { results := [.lit (.bool false)], args := [d] }
  | _ => none }
def StatsTellsWrongFalsely : Prop := statsTellsRow.holds Try.pinned (OpenSpec.ofChange statsTellsWrong)

/-- 'levellinglaw17.StatsMiss': WHATEVER THE INPUT: true; the input reads as it did. -/
def statsMissSpec : ChangeSpec := { name := "statsMiss", fn := fun _ => fun
  | [d1, d2] => { results := [.lit (.bool true)], args := [d1, d2] }
  | _ => none }
def statsMissRow : OpenClaim := { program := "ytkhnoffhbfcgfaa", sum := "19660bae74db32cc6d6569e0b49c2820dba66888fd461f14b70fc2508f78c9db", func := "levelling/levellinglaw17.StatsMiss", spec := "statsMiss", inPlace := ["math.Float64bits", "math.Float64frombits", "math.sqrt"], unfollowed := true, recurses := true, apart := false }
def StatsMissSaid : Prop := statsMissRow.holds Try.pinned (OpenSpec.ofChange statsMissSpec)

/-- ITS FALSE NEIGHBOUR: 'it returns false'. Refute it at one input. -/
def statsMissWrong : ChangeSpec := { name := "statsMiss", fn := fun _ => fun
  | [d1, d2] => { results := [.lit (.bool false)], args := [d1, d2] }
  | _ => none }
def StatsMissWrongFalsely : Prop := statsMissRow.holds Try.pinned (OpenSpec.ofChange statsMissWrong)

/-- 'levellinglaw17.StatsFit': WHATEVER THE INPUT: true; the input reads as it did. -/
def statsFitSpec : ChangeSpec := { name := "statsFit", fn := fun _ => fun
  | [d] => { results := [.lit (.bool true)], args := [d] }
  | _ => none }
def statsFitRow : OpenClaim := { program := "ytkhnoffhbfcgfaa", sum := "19660bae74db32cc6d6569e0b49c2820dba66888fd461f14b70fc2508f78c9db", func := "levelling/levellinglaw17.StatsFit", spec := "statsFit", inPlace := ["math.Float64bits", "math.Float64frombits", "math.sqrt"], unfollowed := true, recurses := true, apart := false }
def StatsFitSaid : Prop := statsFitRow.holds Try.pinned (OpenSpec.ofChange statsFitSpec)

/-- ITS FALSE NEIGHBOUR: 'it returns false'. Refute it at one input. -/
def statsFitWrong : ChangeSpec := { name := "statsFit", fn := fun _ => fun
  | [d] => { results := [.lit (.bool false)], args := [d] }
  | _ => none }
def StatsFitWrongFalsely : Prop := statsFitRow.holds Try.pinned (OpenSpec.ofChange statsFitWrong)

/-- 'levellinglaw17.StatsBest': WHATEVER THE INPUT: true; the input reads as it did. -/
def statsBestSpec : ChangeSpec := { name := "statsBest", fn := fun _ => fun
  | [d1, d2] => { results := [.lit (.bool true)], args := [d1, d2] }
  | _ => none }
def statsBestRow : OpenClaim := { program := "ytkhnoffhbfcgfaa", sum := "19660bae74db32cc6d6569e0b49c2820dba66888fd461f14b70fc2508f78c9db", func := "levelling/levellinglaw17.StatsBest", spec := "statsBest", inPlace := ["math.Float64bits", "math.Float64frombits", "math.sqrt"], unfollowed := true, recurses := true, apart := false }
def StatsBestSaid : Prop := statsBestRow.holds Try.pinned (OpenSpec.ofChange statsBestSpec)

/-- ITS FALSE NEIGHBOUR: 'it returns false'. Refute it at one input. -/
def statsBestWrong : ChangeSpec := { name := "statsBest", fn := fun _ => fun
  | [d1, d2] => { results := [.lit (.bool false)], args := [d1, d2] }
  | _ => none }
def StatsBestWrongFalsely : Prop := statsBestRow.holds Try.pinned (OpenSpec.ofChange statsBestWrong)

/-- 'levellinglaw17.StatsNear': WHATEVER THE INPUT: true; the input reads as it did. -/
def statsNearSpec : ChangeSpec := { name := "statsNear", fn := fun _ => fun
  | [d] => { results := [.lit (.bool true)], args := [d] }
  | _ => none }
def statsNearRow : OpenClaim := { program := "ytkhnoffhbfcgfaa", sum := "19660bae74db32cc6d6569e0b49c2820dba66888fd461f14b70fc2508f78c9db", func := "levelling/levellinglaw17.StatsNear", spec := "statsNear", inPlace := ["math.Float64bits", "math.Float64frombits", "math.sqrt"], unfollowed := true, recurses := true, apart := false }
def StatsNearSaid : Prop := statsNearRow.holds Try.pinned (OpenSpec.ofChange statsNearSpec)

/-- ITS FALSE NEIGHBOUR: 'it returns false'. Refute it at one input. -/
def statsNearWrong : ChangeSpec := { name := "statsNear", fn := fun _ => fun
  | [d] => { results := [.lit (.bool false)], args := [d] }
  | _ => none }
def StatsNearWrongFalsely : Prop := statsNearRow.holds Try.pinned (OpenSpec.ofChange statsNearWrong)

/-- 'levellinglaw17.StatsSpread': WHATEVER THE INPUT: true; the input reads as it did. -/
def statsSpreadSpec : ChangeSpec := { name := "statsSpread", fn := fun _ => fun
  | [d] => { results := [.lit (.bool true)], args := [d] }
  | _ => none }
def statsSpreadRow : OpenClaim := { program := "ytkhnoffhbfcgfaa", sum := "19660bae74db32cc6d6569e0b49c2820dba66888fd461f14b70fc2508f78c9db", func := "levelling/levellinglaw17.StatsSpread", spec := "statsSpread", inPlace := ["math.Float64bits", "math.Float64frombits", "math.sqrt"], unfollowed := true, recurses := true, apart := false }
def StatsSpreadSaid : Prop := statsSpreadRow.holds Try.pinned (OpenSpec.ofChange statsSpreadSpec)

/-- ITS FALSE NEIGHBOUR: 'it returns false'. Refute it at one input. -/
def statsSpreadWrong : ChangeSpec := { name := "statsSpread", fn := fun _ => fun
  | [d] => { results := [.lit (.bool false)], args := [d] }
  | _ => none }
def StatsSpreadWrongFalsely : Prop := statsSpreadRow.holds Try.pinned (OpenSpec.ofChange statsSpreadWrong)

/- THE SECOND FORM. 'bulk': how many values and letters a reading holds, each counted each time it is reached (what is shared counts as often as it is met; a slice's spare places count too). A statement '..UptoSaid' is the law's where the arguments, and the package variables that the reading takes, are together of bulk at most 1048576: NARROWER than '..Said'. Prove '..Said' where nothing that the law and all that it calls make is longer than what came in: it says more and counts as full. Else prove '..UptoSaid'. A law counts once. -/
mutual
def uptoBulk {H : Type} : DataW H → Nat
  | .lit (.string bytes) => bytes.length + 1
  | .lit _ => 1
  | .nil => 1
  | .ptr d => uptoBulk d + 1
  | .slice elems spare => uptoBulkAll elems + uptoBulkAll spare + 1
  | .agg parts => uptoBulkAll parts + 1
  | .iface _ d => uptoBulk d + 1
  | .map entries => uptoBulkEntries entries + 1
  | .held _ => 1
def uptoBulkAll {H : Type} : List (DataW H) → Nat
  | [] => 0
  | d :: r => uptoBulk d + uptoBulkAll r
def uptoBulkEntries {H : Type} : List (Lit × DataW H) → Nat
  | [] => 0
  | x :: r => uptoBulkEntry x + uptoBulkEntries r
def uptoBulkEntry {H : Type} : Lit × DataW H → Nat
  | (.string bytes, d) => bytes.length + uptoBulk d + 1
  | (_, d) => uptoBulk d + 1
 end
def uptoSmall : (H : Type) → List (DataW H) → Bool := fun _ ds => decide (uptoBulkAll ds ≤ 1048576)
def OpenSpec.upto (s : _root_.Go.ChangeSpec) : _root_.Go.OpenSpec := { _root_.Go.OpenSpec.ofChange s with cond := some uptoSmall }

/-- 'levellinglaw17.StatsTells', WHERE WHAT IT READS IS OF BULK AT MOST 1048576: true; the input reads as it did. -/
def statsTellsUptoRow : OpenClaim := { program := "ytkhnoffhbfcgfaa", sum := "19660bae74db32cc6d6569e0b49c2820dba66888fd461f14b70fc2508f78c9db", func := "levelling/levellinglaw17.StatsTells", spec := "statsTells", inPlace := ["math.Float64bits", "math.Float64frombits", "math.sqrt"], unfollowed := true, recurses := true, apart := false, narrowed := true }
def StatsTellsUptoSaid : Prop := statsTellsUptoRow.holds Try.pinned (OpenSpec.upto statsTellsSpec)

/-- 'levellinglaw17.StatsMiss', WHERE WHAT IT READS IS OF BULK AT MOST 1048576: true; the input reads as it did. -/
def statsMissUptoRow : OpenClaim := { program := "ytkhnoffhbfcgfaa", sum := "19660bae74db32cc6d6569e0b49c2820dba66888fd461f14b70fc2508f78c9db", func := "levelling/levellinglaw17.StatsMiss", spec := "statsMiss", inPlace := ["math.Float64bits", "math.Float64frombits", "math.sqrt"], unfollowed := true, recurses := true, apart := false, narrowed := true }
def StatsMissUptoSaid : Prop := statsMissUptoRow.holds Try.pinned (OpenSpec.upto statsMissSpec)

/-- 'levellinglaw17.StatsFit', WHERE WHAT IT READS IS OF BULK AT MOST 1048576: true; the input reads as it did. -/
def statsFitUptoRow : OpenClaim := { program := "ytkhnoffhbfcgfaa", sum := "19660bae74db32cc6d6569e0b49c2820dba66888fd461f14b70fc2508f78c9db", func := "levelling/levellinglaw17.StatsFit", spec := "statsFit", inPlace := ["math.Float64bits", "math.Float64frombits", "math.sqrt"], unfollowed := true, recurses := true, apart := false, narrowed := true }
def StatsFitUptoSaid : Prop := statsFitUptoRow.holds Try.pinned (OpenSpec.upto statsFitSpec)

/-- 'levellinglaw17.StatsBest', WHERE WHAT IT READS IS OF BULK AT MOST 1048576: true; the input reads as it did. -/
def statsBestUptoRow : OpenClaim := { program := "ytkhnoffhbfcgfaa", sum := "19660bae74db32cc6d6569e0b49c2820dba66888fd461f14b70fc2508f78c9db", func := "levelling/levellinglaw17.StatsBest", spec := "statsBest", inPlace := ["math.Float64bits", "math.Float64frombits", "math.sqrt"], unfollowed := true, recurses := true, apart := false, narrowed := true }
def StatsBestUptoSaid : Prop := statsBestUptoRow.holds Try.pinned (OpenSpec.upto statsBestSpec)

/-- 'levellinglaw17.StatsNear', WHERE WHAT IT READS IS OF BULK AT MOST 1048576: true; the input reads as it did. -/
def statsNearUptoRow : OpenClaim := { program := "ytkhnoffhbfcgfaa", sum := "19660bae74db32cc6d6569e0b49c2820dba66888fd461f14b70fc2508f78c9db", func := "levelling/levellinglaw17.StatsNear", spec := "statsNear", inPlace := ["math.Float64bits", "math.Float64frombits", "math.sqrt"], unfollowed := true, recurses := true, apart := false, narrowed := true }
def StatsNearUptoSaid : Prop := statsNearUptoRow.holds Try.pinned (OpenSpec.upto statsNearSpec)

/-- 'levellinglaw17.StatsSpread', WHERE WHAT IT READS IS OF BULK AT MOST 1048576: true; the input reads as it did. -/
def statsSpreadUptoRow : OpenClaim := { program := "ytkhnoffhbfcgfaa", sum := "19660bae74db32cc6d6569e0b49c2820dba66888fd461f14b70fc2508f78c9db", func := "levelling/levellinglaw17.StatsSpread", spec := "statsSpread", inPlace := ["math.Float64bits", "math.Float64frombits", "math.sqrt"], unfollowed := true, recurses := true, apart := false, narrowed := true }
def StatsSpreadUptoSaid : Prop := statsSpreadUptoRow.holds Try.pinned (OpenSpec.upto statsSpreadSpec)

end Rows
end Go.Proofs.Ytkhnoffhbfcgfaa
