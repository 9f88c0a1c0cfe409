/-
  No cell of these rows narrows 'for every input' (looked for: loops, veiled, ifaces, maps, wideKeys, modest, calm, conditions, laid).
  DERIVED. THE GIVEN ROWS OF THIS SEAT. 6 by the template 'for every input the law returns true; each argument reads behind the call as it read before'; 0 by the template 'total and deterministic' (their statements: YtigacobphgeeaaaTotals.lean).
  GIVEN WITH THE SEED: the statements are not yours to turn. If you find one false, say at which input.
  Laid BY PROGRAM, IN A SANDBOX (cutbox-rows.mjs): the forced cells as the released guide's own fill.sh prints them over the translation 17be65089fb8c401… (all of the seat's roots in one cut). By AI agents, Wed Nov 11 2026. No macro, syntax, notation, axiom, sorry.
-/
import Derived.Test.YtigacobphgeeaaaChecked
import GoSem.Claim
import GoSem.ClaimJoined
import GoSem.ClaimMapViews
import Derived.JoinedTies
import Derived.KernelRfl
namespace Go.Proofs.Ytigacobphgeeaaa
/- THE CELL 'sum', in the pinned program and in every row, IS THE sha256 OF THE DUMP (.gsa) THAT YtigacobphgeeaaaProg.lean LOADS. Nothing in Lean hashes anything: it is a label: what it is worth is what the hold of that sum in a sandbox is worth. -/
noncomputable def Try.pinned : Pinned := { name := "ytigacobphgeeaaa", sum := "17be65089fb8c4011881011a154a6892a427234f17155bfc18c2d4c82d360456", checked := Try.checked }
namespace Rows
def none {H : Type} : Left H := { results := [], args := [] }

/-- 'levellinglaw18.InverseTells': WHATEVER THE INPUT: true; the input reads as it did. -/
def inverseTellsSpec : ChangeSpec := { name := "inverseTells", fn := fun _ => fun
  | [d] => { results := [.lit (.bool true)], args := [d] }
  | _ => none }
def inverseTellsRow : OpenClaim := { program := "ytigacobphgeeaaa", sum := "17be65089fb8c4011881011a154a6892a427234f17155bfc18c2d4c82d360456", func := "levelling/levellinglaw18.InverseTells", spec := "inverseTells", inPlace := ["math.Float64bits", "math.Float64frombits", "math.sqrt"], unfollowed := true, recurses := true, apart := false }
def InverseTellsSaid : Prop := inverseTellsRow.holds Try.pinned (OpenSpec.ofChange inverseTellsSpec)

/-- ITS FALSE NEIGHBOUR: 'it returns false'. Refute it at one input. -/
def inverseTellsWrong : ChangeSpec := { name := "inverseTells", fn := fun _ => fun
  | [d] => { results := [.lit (.bool false)], args := [d] }
  | _ => none }
def InverseTellsWrongFalsely : Prop := inverseTellsRow.holds Try.pinned (OpenSpec.ofChange inverseTellsWrong)

/-- 'levellinglaw18.InverseErrors': WHATEVER THE INPUT: true; the input reads as it did. -/
def inverseErrorsSpec : ChangeSpec := { name := "inverseErrors", fn := fun _ => fun
  | [d] => { results := [.lit (.bool true)], args := [d] }
  | _ => none }
def inverseErrorsRow : OpenClaim := { program := "ytigacobphgeeaaa", sum := "17be65089fb8c4011881011a154a6892a427234f17155bfc18c2d4c82d360456", func := "levelling/levellinglaw18.InverseErrors", spec := "inverseErrors", inPlace := ["math.Float64bits", "math.Float64frombits", "math.sqrt"], unfollowed := true, recurses := true, apart := false }
def InverseErrorsSaid : Prop := inverseErrorsRow.holds Try.pinned (OpenSpec.ofChange inverseErrorsSpec)

/-- ITS FALSE NEIGHBOUR: 'it returns false'. Refute it at one input. -/
def inverseErrorsWrong : ChangeSpec := { name := "inverseErrors", fn := fun _ => fun
  | [d] => { results := [.lit (.bool false)], args := [d] }
  | _ => none }
def InverseErrorsWrongFalsely : Prop := inverseErrorsRow.holds Try.pinned (OpenSpec.ofChange inverseErrorsWrong)

/-- 'levellinglaw18.InverseNear': WHATEVER THE INPUT: true; the input reads as it did. -/
def inverseNearSpec : ChangeSpec := { name := "inverseNear", fn := fun _ => fun
  | [d] => { results := [.lit (.bool true)], args := [d] }
  | _ => none }
def inverseNearRow : OpenClaim := { program := "ytigacobphgeeaaa", sum := "17be65089fb8c4011881011a154a6892a427234f17155bfc18c2d4c82d360456", func := "levelling/levellinglaw18.InverseNear", spec := "inverseNear", inPlace := ["math.Float64bits", "math.Float64frombits", "math.sqrt"], unfollowed := true, recurses := true, apart := false }
def InverseNearSaid : Prop := inverseNearRow.holds Try.pinned (OpenSpec.ofChange inverseNearSpec)

/-- ITS FALSE NEIGHBOUR: 'it returns false'. Refute it at one input. -/
def inverseNearWrong : ChangeSpec := { name := "inverseNear", fn := fun _ => fun
  | [d] => { results := [.lit (.bool false)], args := [d] }
  | _ => none }
def InverseNearWrongFalsely : Prop := inverseNearRow.holds Try.pinned (OpenSpec.ofChange inverseNearWrong)

/-- 'levellinglaw18.InverseLeast': WHATEVER THE INPUT: true; the input reads as it did. -/
def inverseLeastSpec : ChangeSpec := { name := "inverseLeast", fn := fun _ => fun
  | [d] => { results := [.lit (.bool true)], args := [d] }
  | _ => none }
def inverseLeastRow : OpenClaim := { program := "ytigacobphgeeaaa", sum := "17be65089fb8c4011881011a154a6892a427234f17155bfc18c2d4c82d360456", func := "levelling/levellinglaw18.InverseLeast", spec := "inverseLeast", inPlace := ["math.Float64bits", "math.Float64frombits", "math.sqrt"], unfollowed := true, recurses := true, apart := false }
def InverseLeastSaid : Prop := inverseLeastRow.holds Try.pinned (OpenSpec.ofChange inverseLeastSpec)

/-- ITS FALSE NEIGHBOUR: 'it returns false'. Refute it at one input. -/
def inverseLeastWrong : ChangeSpec := { name := "inverseLeast", fn := fun _ => fun
  | [d] => { results := [.lit (.bool false)], args := [d] }
  | _ => none }
def InverseLeastWrongFalsely : Prop := inverseLeastRow.holds Try.pinned (OpenSpec.ofChange inverseLeastWrong)

/-- 'levellinglaw18.InverseSpread': WHATEVER THE INPUT: true; the input reads as it did. -/
def inverseSpreadSpec : ChangeSpec := { name := "inverseSpread", fn := fun _ => fun
  | [d] => { results := [.lit (.bool true)], args := [d] }
  | _ => none }
def inverseSpreadRow : OpenClaim := { program := "ytigacobphgeeaaa", sum := "17be65089fb8c4011881011a154a6892a427234f17155bfc18c2d4c82d360456", func := "levelling/levellinglaw18.InverseSpread", spec := "inverseSpread", inPlace := ["math.Float64bits", "math.Float64frombits", "math.sqrt"], unfollowed := true, recurses := true, apart := false }
def InverseSpreadSaid : Prop := inverseSpreadRow.holds Try.pinned (OpenSpec.ofChange inverseSpreadSpec)

/-- ITS FALSE NEIGHBOUR: 'it returns false'. Refute it at one input. -/
def inverseSpreadWrong : ChangeSpec := { name := "inverseSpread", fn := fun _ => fun
  | [d] => { results := [.lit (.bool false)], args := [d] }
  | _ => none }
def InverseSpreadWrongFalsely : Prop := inverseSpreadRow.holds Try.pinned (OpenSpec.ofChange inverseSpreadWrong)

/-- 'levellinglaw18.InverseRefuses': WHATEVER THE INPUT: true; the input reads as it did. -/
def inverseRefusesSpec : ChangeSpec := { name := "inverseRefuses", fn := fun _ => fun
  | [d] => { results := [.lit (.bool true)], args := [d] }
  | _ => none }
def inverseRefusesRow : OpenClaim := { program := "ytigacobphgeeaaa", sum := "17be65089fb8c4011881011a154a6892a427234f17155bfc18c2d4c82d360456", func := "levelling/levellinglaw18.InverseRefuses", spec := "inverseRefuses", inPlace := ["math.Float64bits", "math.Float64frombits", "math.sqrt"], unfollowed := true, recurses := true, apart := false }
def InverseRefusesSaid : Prop := inverseRefusesRow.holds Try.pinned (OpenSpec.ofChange inverseRefusesSpec)

/-- ITS FALSE NEIGHBOUR: 'it returns false'. Refute it at one input. -/
def inverseRefusesWrong : ChangeSpec := { name := "inverseRefuses", fn := fun _ => fun
  | [d] => { results := [.lit (.bool false)], args := [d] }
  | _ => none }
def InverseRefusesWrongFalsely : Prop := inverseRefusesRow.holds Try.pinned (OpenSpec.ofChange inverseRefusesWrong)

/- THE SECOND FORM. 'bulk': how many values and letters a reading holds, each counted each time it is reached (what is shared counts as often as it is met; a slice's spare places count too). A statement '..UptoSaid' is the law's where the arguments, and the package variables that the reading takes, are together of bulk at most 1048576: NARROWER than '..Said'. Prove '..Said' where nothing that the law and all that it calls make is longer than what came in: it says more and counts as full. Else prove '..UptoSaid'. A law counts once. -/
mutual
def uptoBulk {H : Type} : DataW H → Nat
  | .lit (.string bytes) => bytes.length + 1
  | .lit _ => 1
  | .nil => 1
  | .ptr d => uptoBulk d + 1
  | .slice elems spare => uptoBulkAll elems + uptoBulkAll spare + 1
  | .agg parts => uptoBulkAll parts + 1
  | .iface _ d => uptoBulk d + 1
  | .map entries => uptoBulkEntries entries + 1
  | .held _ => 1
def uptoBulkAll {H : Type} : List (DataW H) → Nat
  | [] => 0
  | d :: r => uptoBulk d + uptoBulkAll r
def uptoBulkEntries {H : Type} : List (Lit × DataW H) → Nat
  | [] => 0
  | x :: r => uptoBulkEntry x + uptoBulkEntries r
def uptoBulkEntry {H : Type} : Lit × DataW H → Nat
  | (.string bytes, d) => bytes.length + uptoBulk d + 1
  | (_, d) => uptoBulk d + 1
 end
def uptoSmall : (H : Type) → List (DataW H) → Bool := fun _ ds => decide (uptoBulkAll ds ≤ 1048576)
def OpenSpec.upto (s : _root_.Go.ChangeSpec) : _root_.Go.OpenSpec := { _root_.Go.OpenSpec.ofChange s with cond := some uptoSmall }

/-- 'levellinglaw18.InverseTells', WHERE WHAT IT READS IS OF BULK AT MOST 1048576: true; the input reads as it did. -/
def inverseTellsUptoRow : OpenClaim := { program := "ytigacobphgeeaaa", sum := "17be65089fb8c4011881011a154a6892a427234f17155bfc18c2d4c82d360456", func := "levelling/levellinglaw18.InverseTells", spec := "inverseTells", inPlace := ["math.Float64bits", "math.Float64frombits", "math.sqrt"], unfollowed := true, recurses := true, apart := false, narrowed := true }
def InverseTellsUptoSaid : Prop := inverseTellsUptoRow.holds Try.pinned (OpenSpec.upto inverseTellsSpec)

/-- 'levellinglaw18.InverseErrors', WHERE WHAT IT READS IS OF BULK AT MOST 1048576: true; the input reads as it did. -/
def inverseErrorsUptoRow : OpenClaim := { program := "ytigacobphgeeaaa", sum := "17be65089fb8c4011881011a154a6892a427234f17155bfc18c2d4c82d360456", func := "levelling/levellinglaw18.InverseErrors", spec := "inverseErrors", inPlace := ["math.Float64bits", "math.Float64frombits", "math.sqrt"], unfollowed := true, recurses := true, apart := false, narrowed := true }
def InverseErrorsUptoSaid : Prop := inverseErrorsUptoRow.holds Try.pinned (OpenSpec.upto inverseErrorsSpec)

/-- 'levellinglaw18.InverseNear', WHERE WHAT IT READS IS OF BULK AT MOST 1048576: true; the input reads as it did. -/
def inverseNearUptoRow : OpenClaim := { program := "ytigacobphgeeaaa", sum := "17be65089fb8c4011881011a154a6892a427234f17155bfc18c2d4c82d360456", func := "levelling/levellinglaw18.InverseNear", spec := "inverseNear", inPlace := ["math.Float64bits", "math.Float64frombits", "math.sqrt"], unfollowed := true, recurses := true, apart := false, narrowed := true }
def InverseNearUptoSaid : Prop := inverseNearUptoRow.holds Try.pinned (OpenSpec.upto inverseNearSpec)

/-- 'levellinglaw18.InverseLeast', WHERE WHAT IT READS IS OF BULK AT MOST 1048576: true; the input reads as it did. -/
def inverseLeastUptoRow : OpenClaim := { program := "ytigacobphgeeaaa", sum := "17be65089fb8c4011881011a154a6892a427234f17155bfc18c2d4c82d360456", func := "levelling/levellinglaw18.InverseLeast", spec := "inverseLeast", inPlace := ["math.Float64bits", "math.Float64frombits", "math.sqrt"], unfollowed := true, recurses := true, apart := false, narrowed := true }
def InverseLeastUptoSaid : Prop := inverseLeastUptoRow.holds Try.pinned (OpenSpec.upto inverseLeastSpec)

/-- 'levellinglaw18.InverseSpread', WHERE WHAT IT READS IS OF BULK AT MOST 1048576: true; the input reads as it did. -/
def inverseSpreadUptoRow : OpenClaim := { program := "ytigacobphgeeaaa", sum := "17be65089fb8c4011881011a154a6892a427234f17155bfc18c2d4c82d360456", func := "levelling/levellinglaw18.InverseSpread", spec := "inverseSpread", inPlace := ["math.Float64bits", "math.Float64frombits", "math.sqrt"], unfollowed := true, recurses := true, apart := false, narrowed := true }
def InverseSpreadUptoSaid : Prop := inverseSpreadUptoRow.holds Try.pinned (OpenSpec.upto inverseSpreadSpec)

/-- 'levellinglaw18.InverseRefuses', WHERE WHAT IT READS IS OF BULK AT MOST 1048576: true; the input reads as it did. -/
def inverseRefusesUptoRow : OpenClaim := { program := "ytigacobphgeeaaa", sum := "17be65089fb8c4011881011a154a6892a427234f17155bfc18c2d4c82d360456", func := "levelling/levellinglaw18.InverseRefuses", spec := "inverseRefuses", inPlace := ["math.Float64bits", "math.Float64frombits", "math.sqrt"], unfollowed := true, recurses := true, apart := false, narrowed := true }
def InverseRefusesUptoSaid : Prop := inverseRefusesUptoRow.holds Try.pinned (OpenSpec.upto inverseRefusesSpec)

end Rows
end Go.Proofs.Ytigacobphgeeaaa
