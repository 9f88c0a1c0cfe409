/-
  No cell of these rows narrows 'for every input' (looked for: loops, veiled, ifaces, maps, wideKeys, modest, calm, conditions, laid).
  DERIVED. THE GIVEN ROWS OF THIS SEAT. 6 by the template 'for every input the law returns true; each argument reads behind the call as it read before'; 0 by the template 'total and deterministic' (their statements: YtlenlacjonhicaaTotals.lean).
  GIVEN WITH THE SEED: the statements are not yours to turn. If you find one false, say at which input.
  Laid BY PROGRAM, IN A SANDBOX (cutbox-rows.mjs): the forced cells as the released guide's own fill.sh prints them over the translation c657a391d1ce9d68… (all of the seat's roots in one cut). By AI agents, Wed Nov 11 2026. No macro, syntax, notation, axiom, sorry.
-/
import Derived.Test.YtlenlacjonhicaaChecked
import GoSem.Claim
import GoSem.ClaimJoined
import GoSem.ClaimMapViews
import Derived.JoinedTies
import Derived.KernelRfl
namespace Go.Proofs.Ytlenlacjonhicaa
/- THE CELL 'sum', in the pinned program and in every row, IS THE sha256 OF THE DUMP (.gsa) THAT YtlenlacjonhicaaProg.lean LOADS. Nothing in Lean hashes anything: it is a label: what it is worth is what the hold of that sum in a sandbox is worth. -/
noncomputable def Try.pinned : Pinned := { name := "ytlenlacjonhicaa", sum := "c657a391d1ce9d68b47d4f0b93e06559d67a62f5286dc97e9953b86505acd3ee", checked := Try.checked }
namespace Rows
def none {H : Type} : Left H := { results := [], args := [] }

/-- 'levellinglaw07.TriTells': WHATEVER THE INPUT: true; the input reads as it did. -/
def triTellsSpec : ChangeSpec := { name := "triTells", fn := fun _ => fun
  | [d1, d2] => { results := [.lit (.bool true)], args := [d1, d2] }
  | _ => none }
def triTellsRow : OpenClaim := { program := "ytlenlacjonhicaa", sum := "c657a391d1ce9d68b47d4f0b93e06559d67a62f5286dc97e9953b86505acd3ee", func := "levelling/levellinglaw07.TriTells", spec := "triTells", inPlace := ["math.Float64bits", "math.Float64frombits"], unfollowed := true, recurses := true, apart := false }
def TriTellsSaid : Prop := triTellsRow.holds Try.pinned (OpenSpec.ofChange triTellsSpec)

/-- ITS FALSE NEIGHBOUR: 'it returns false'. Refute it at one input. -/
def triTellsWrong : ChangeSpec := { name := "triTells", fn := fun _ => fun
  | [d1, d2] => { results := [.lit (.bool false)], args := [d1, d2] }
  | _ => none }
def TriTellsWrongFalsely : Prop := triTellsRow.holds Try.pinned (OpenSpec.ofChange triTellsWrong)

/-- 'levellinglaw07.TriGets': WHATEVER THE INPUT: true; the input reads as it did. -/
def triGetsSpec : ChangeSpec := { name := "triGets", fn := fun _ => fun
  | [d1, d2, d3] => { results := [.lit (.bool true)], args := [d1, d2, d3] }
  | _ => none }
def triGetsRow : OpenClaim := { program := "ytlenlacjonhicaa", sum := "c657a391d1ce9d68b47d4f0b93e06559d67a62f5286dc97e9953b86505acd3ee", func := "levelling/levellinglaw07.TriGets", spec := "triGets", inPlace := ["math.Float64bits", "math.Float64frombits"], unfollowed := true, recurses := true, apart := false }
def TriGetsSaid : Prop := triGetsRow.holds Try.pinned (OpenSpec.ofChange triGetsSpec)

/-- ITS FALSE NEIGHBOUR: 'it returns false'. Refute it at one input. -/
def triGetsWrong : ChangeSpec := { name := "triGets", fn := fun _ => fun
  | [d1, d2, d3] => { results := [.lit (.bool false)], args := [d1, d2, d3] }
  | _ => none }
def TriGetsWrongFalsely : Prop := triGetsRow.holds Try.pinned (OpenSpec.ofChange triGetsWrong)

/-- 'levellinglaw07.TriPlaces': WHATEVER THE INPUT: true; the input reads as it did. -/
def triPlacesSpec : ChangeSpec := { name := "triPlaces", fn := fun _ => fun
  | [d1, d2, d3] => { results := [.lit (.bool true)], args := [d1, d2, d3] }
  | _ => none }
def triPlacesRow : OpenClaim := { program := "ytlenlacjonhicaa", sum := "c657a391d1ce9d68b47d4f0b93e06559d67a62f5286dc97e9953b86505acd3ee", func := "levelling/levellinglaw07.TriPlaces", spec := "triPlaces", inPlace := ["math.Float64bits", "math.Float64frombits"], unfollowed := true, recurses := true, apart := false }
def TriPlacesSaid : Prop := triPlacesRow.holds Try.pinned (OpenSpec.ofChange triPlacesSpec)

/-- ITS FALSE NEIGHBOUR: 'it returns false'. Refute it at one input. -/
def triPlacesWrong : ChangeSpec := { name := "triPlaces", fn := fun _ => fun
  | [d1, d2, d3] => { results := [.lit (.bool false)], args := [d1, d2, d3] }
  | _ => none }
def TriPlacesWrongFalsely : Prop := triPlacesRow.holds Try.pinned (OpenSpec.ofChange triPlacesWrong)

/-- 'levellinglaw07.TriSets': WHATEVER THE INPUT: true; the input reads as it did. -/
def triSetsSpec : ChangeSpec := { name := "triSets", fn := fun _ => fun
  | [d1, d2, d3] => { results := [.lit (.bool true)], args := [d1, d2, d3] }
  | _ => none }
def triSetsRow : OpenClaim := { program := "ytlenlacjonhicaa", sum := "c657a391d1ce9d68b47d4f0b93e06559d67a62f5286dc97e9953b86505acd3ee", func := "levelling/levellinglaw07.TriSets", spec := "triSets", inPlace := ["math.Float64bits", "math.Float64frombits"], unfollowed := true, recurses := true, apart := false }
def TriSetsSaid : Prop := triSetsRow.holds Try.pinned (OpenSpec.ofChange triSetsSpec)

/-- ITS FALSE NEIGHBOUR: 'it returns false'. Refute it at one input. -/
def triSetsWrong : ChangeSpec := { name := "triSets", fn := fun _ => fun
  | [d1, d2, d3] => { results := [.lit (.bool false)], args := [d1, d2, d3] }
  | _ => none }
def TriSetsWrongFalsely : Prop := triSetsRow.holds Try.pinned (OpenSpec.ofChange triSetsWrong)

/-- 'levellinglaw07.TriLines': WHATEVER THE INPUT: true; the input reads as it did. -/
def triLinesSpec : ChangeSpec := { name := "triLines", fn := fun _ => fun
  | [d1, d2] => { results := [.lit (.bool true)], args := [d1, d2] }
  | _ => none }
def triLinesRow : OpenClaim := { program := "ytlenlacjonhicaa", sum := "c657a391d1ce9d68b47d4f0b93e06559d67a62f5286dc97e9953b86505acd3ee", func := "levelling/levellinglaw07.TriLines", spec := "triLines", inPlace := ["math.Float64bits", "math.Float64frombits"], unfollowed := true, recurses := true, apart := false }
def TriLinesSaid : Prop := triLinesRow.holds Try.pinned (OpenSpec.ofChange triLinesSpec)

/-- ITS FALSE NEIGHBOUR: 'it returns false'. Refute it at one input. -/
def triLinesWrong : ChangeSpec := { name := "triLines", fn := fun _ => fun
  | [d1, d2] => { results := [.lit (.bool false)], args := [d1, d2] }
  | _ => none }
def TriLinesWrongFalsely : Prop := triLinesRow.holds Try.pinned (OpenSpec.ofChange triLinesWrong)

/-- 'levellinglaw07.TriNew': WHATEVER THE INPUT: true; the input reads as it did. -/
def triNewSpec : ChangeSpec := { name := "triNew", fn := fun _ => fun
  | [d] => { results := [.lit (.bool true)], args := [d] }
  | _ => none }
def triNewRow : OpenClaim := { program := "ytlenlacjonhicaa", sum := "c657a391d1ce9d68b47d4f0b93e06559d67a62f5286dc97e9953b86505acd3ee", func := "levelling/levellinglaw07.TriNew", spec := "triNew", inPlace := ["math.Float64bits", "math.Float64frombits"], unfollowed := true, recurses := true, apart := false }
def TriNewSaid : Prop := triNewRow.holds Try.pinned (OpenSpec.ofChange triNewSpec)

/-- ITS FALSE NEIGHBOUR: 'it returns false'. Refute it at one input. -/
def triNewWrong : ChangeSpec := { name := "triNew", fn := fun _ => fun
  | [d] => { results := [.lit (.bool false)], args := [d] }
  | _ => none }
def TriNewWrongFalsely : Prop := triNewRow.holds Try.pinned (OpenSpec.ofChange triNewWrong)

/- THE SECOND FORM. 'bulk': how many values and letters a reading holds, each counted each time it is reached (what is shared counts as often as it is met; a slice's spare places count too). A statement '..UptoSaid' is the law's where the arguments, and the package variables that the reading takes, are together of bulk at most 1048576: NARROWER than '..Said'. Prove '..Said' where nothing that the law and all that it calls make is longer than what came in: it says more and counts as full. Else prove '..UptoSaid'. A law counts once. -/
mutual
def uptoBulk {H : Type} : DataW H → Nat
  | .lit (.string bytes) => bytes.length + 1
  | .lit _ => 1
  | .nil => 1
  | .ptr d => uptoBulk d + 1
  | .slice elems spare => uptoBulkAll elems + uptoBulkAll spare + 1
  | .agg parts => uptoBulkAll parts + 1
  | .iface _ d => uptoBulk d + 1
  | .map entries => uptoBulkEntries entries + 1
  | .held _ => 1
def uptoBulkAll {H : Type} : List (DataW H) → Nat
  | [] => 0
  | d :: r => uptoBulk d + uptoBulkAll r
def uptoBulkEntries {H : Type} : List (Lit × DataW H) → Nat
  | [] => 0
  | x :: r => uptoBulkEntry x + uptoBulkEntries r
def uptoBulkEntry {H : Type} : Lit × DataW H → Nat
  | (.string bytes, d) => bytes.length + uptoBulk d + 1
  | (_, d) => uptoBulk d + 1
 end
def uptoSmall : (H : Type) → List (DataW H) → Bool := fun _ ds => decide (uptoBulkAll ds ≤ 1048576)
def OpenSpec.upto (s : _root_.Go.ChangeSpec) : _root_.Go.OpenSpec := { _root_.Go.OpenSpec.ofChange s with cond := some uptoSmall }

/-- 'levellinglaw07.TriTells', WHERE WHAT IT READS IS OF BULK AT MOST 1048576: true; the input reads as it did. -/
def triTellsUptoRow : OpenClaim := { program := "ytlenlacjonhicaa", sum := "c657a391d1ce9d68b47d4f0b93e06559d67a62f5286dc97e9953b86505acd3ee", func := "levelling/levellinglaw07.TriTells", spec := "triTells", inPlace := ["math.Float64bits", "math.Float64frombits"], unfollowed := true, recurses := true, apart := false, narrowed := true }
def TriTellsUptoSaid : Prop := triTellsUptoRow.holds Try.pinned (OpenSpec.upto triTellsSpec)

/-- 'levellinglaw07.TriGets', WHERE WHAT IT READS IS OF BULK AT MOST 1048576: true; the input reads as it did. -/
def triGetsUptoRow : OpenClaim := { program := "ytlenlacjonhicaa", sum := "c657a391d1ce9d68b47d4f0b93e06559d67a62f5286dc97e9953b86505acd3ee", func := "levelling/levellinglaw07.TriGets", spec := "triGets", inPlace := ["math.Float64bits", "math.Float64frombits"], unfollowed := true, recurses := true, apart := false, narrowed := true }
def TriGetsUptoSaid : Prop := triGetsUptoRow.holds Try.pinned (OpenSpec.upto triGetsSpec)

/-- 'levellinglaw07.TriPlaces', WHERE WHAT IT READS IS OF BULK AT MOST 1048576: true; the input reads as it did. -/
def triPlacesUptoRow : OpenClaim := { program := "ytlenlacjonhicaa", sum := "c657a391d1ce9d68b47d4f0b93e06559d67a62f5286dc97e9953b86505acd3ee", func := "levelling/levellinglaw07.TriPlaces", spec := "triPlaces", inPlace := ["math.Float64bits", "math.Float64frombits"], unfollowed := true, recurses := true, apart := false, narrowed := true }
def TriPlacesUptoSaid : Prop := triPlacesUptoRow.holds Try.pinned (OpenSpec.upto triPlacesSpec)

/-- 'levellinglaw07.TriSets', WHERE WHAT IT READS IS OF BULK AT MOST 1048576: true; the input reads as it did. -/
def triSetsUptoRow : OpenClaim := { program := "ytlenlacjonhicaa", sum := "c657a391d1ce9d68b47d4f0b93e06559d67a62f5286dc97e9953b86505acd3ee", func := "levelling/levellinglaw07.TriSets", spec := "triSets", inPlace := ["math.Float64bits", "math.Float64frombits"], unfollowed := true, recurses := true, apart := false, narrowed := true }
def TriSetsUptoSaid : Prop := triSetsUptoRow.holds Try.pinned (OpenSpec.upto triSetsSpec)

/-- 'levellinglaw07.TriLines', WHERE WHAT IT READS IS OF BULK AT MOST 1048576: true; the input reads as it did. -/
def triLinesUptoRow : OpenClaim := { program := "ytlenlacjonhicaa", sum := "c657a391d1ce9d68b47d4f0b93e06559d67a62f5286dc97e9953b86505acd3ee", func := "levelling/levellinglaw07.TriLines", spec := "triLines", inPlace := ["math.Float64bits", "math.Float64frombits"], unfollowed := true, recurses := true, apart := false, narrowed := true }
def TriLinesUptoSaid : Prop := triLinesUptoRow.holds Try.pinned (OpenSpec.upto triLinesSpec)

/-- 'levellinglaw07.TriNew', WHERE WHAT IT READS IS OF BULK AT MOST 1048576: true; the input reads as it did. -/
def triNewUptoRow : OpenClaim := { program := "ytlenlacjonhicaa", sum := "c657a391d1ce9d68b47d4f0b93e06559d67a62f5286dc97e9953b86505acd3ee", func := "levelling/levellinglaw07.TriNew", spec := "triNew", inPlace := ["math.Float64bits", "math.Float64frombits"], unfollowed := true, recurses := true, apart := false, narrowed := true }
def TriNewUptoSaid : Prop := triNewUptoRow.holds Try.pinned (OpenSpec.upto triNewSpec)

end Rows
end Go.Proofs.Ytlenlacjonhicaa
