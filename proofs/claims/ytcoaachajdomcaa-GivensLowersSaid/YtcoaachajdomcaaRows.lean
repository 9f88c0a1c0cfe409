/-
  No cell of these rows narrows 'for every input' (looked for: loops, veiled, ifaces, maps, wideKeys, modest, calm, conditions, laid).
  DERIVED. THE GIVEN ROWS OF THIS SEAT. 5 by the template 'for every input the law returns true; each argument reads behind the call as it read before'; 0 by the template 'total and deterministic' (their statements: YtcoaachajdomcaaTotals.lean).
  GIVEN WITH THE SEED: the statements are not yours to turn. If you find one false, say at which input.
  Laid BY PROGRAM, IN A SANDBOX (cutbox-rows.mjs): the forced cells as the released guide's own fill.sh prints them over the translation 01e52e27f57b65c8… (all of the seat's roots in one cut). By AI agents, Wed Nov 11 2026. No macro, syntax, notation, axiom, sorry.
-/
import Derived.Test.YtcoaachajdomcaaChecked
import GoSem.Claim
import GoSem.ClaimJoined
import GoSem.ClaimMapViews
import Derived.JoinedTies
import Derived.KernelRfl
namespace Go.Proofs.Ytcoaachajdomcaa
/- THE CELL 'sum', in the pinned program and in every row, IS THE sha256 OF THE DUMP (.gsa) THAT YtcoaachajdomcaaProg.lean LOADS. Nothing in Lean hashes anything: it is a label: what it is worth is what the hold of that sum in a sandbox is worth. -/
noncomputable def Try.pinned : Pinned := { name := "ytcoaachajdomcaa", sum := "01e52e27f57b65c804418671a7d1b45d0d8a14171d8f0471993f5efd97307d9f", checked := Try.checked }
namespace Rows
def none {H : Type} : Left H := { results := [], args := [] }

/-- 'levellinglaw05.KernTells': WHATEVER THE INPUT: true; the input reads as it did. -/
def kernTellsSpec : ChangeSpec := { name := "kernTells", fn := fun _ => fun
  | [d1, d2, d3] => { results := [.lit (.bool true)], args := [d1, d2, d3] }
  | _ => none }
def kernTellsRow : OpenClaim := { program := "ytcoaachajdomcaa", sum := "01e52e27f57b65c804418671a7d1b45d0d8a14171d8f0471993f5efd97307d9f", func := "levelling/levellinglaw05.KernTells", spec := "kernTells", inPlace := ["math.Float64bits", "math.Float64frombits", "math.sqrt"], unfollowed := true, recurses := true, apart := false }
def KernTellsSaid : Prop := kernTellsRow.holds Try.pinned (OpenSpec.ofChange kernTellsSpec)

/-- ITS FALSE NEIGHBOUR: 'it returns false'. Refute it at one input. -/
def kernTellsWrong : ChangeSpec := { name := "kernTells", fn := fun _ => fun
  | [d1, d2, d3] => { results := [.lit (.bool false)], args := [d1, d2, d3] }
  | _ => none }
def KernTellsWrongFalsely : Prop := kernTellsRow.holds Try.pinned (OpenSpec.ofChange kernTellsWrong)

/-- 'levellinglaw05.KernMost': WHATEVER THE INPUT: true; the input reads as it did. -/
def kernMostSpec : ChangeSpec := { name := "kernMost", fn := fun _ => fun
  | [d] => { results := [.lit (.bool true)], args := [d] }
  | _ => none }
def kernMostRow : OpenClaim := { program := "ytcoaachajdomcaa", sum := "01e52e27f57b65c804418671a7d1b45d0d8a14171d8f0471993f5efd97307d9f", func := "levelling/levellinglaw05.KernMost", spec := "kernMost", inPlace := ["math.Float64bits", "math.Float64frombits", "math.sqrt"], unfollowed := true, recurses := true, apart := false }
def KernMostSaid : Prop := kernMostRow.holds Try.pinned (OpenSpec.ofChange kernMostSpec)

/-- ITS FALSE NEIGHBOUR: 'it returns false'. Refute it at one input. -/
def kernMostWrong : ChangeSpec := { name := "kernMost", fn := fun _ => fun
  | [d] => { results := [.lit (.bool false)], args := [d] }
  | _ => none }
def KernMostWrongFalsely : Prop := kernMostRow.holds Try.pinned (OpenSpec.ofChange kernMostWrong)

/-- 'levellinglaw06.GivensTells': WHATEVER THE INPUT: true; the input reads as it did. -/
def givensTellsSpec : ChangeSpec := { name := "givensTells", fn := fun _ => fun
  | [d1, d2] => { results := [.lit (.bool true)], args := [d1, d2] }
  | _ => none }
def givensTellsRow : OpenClaim := { program := "ytcoaachajdomcaa", sum := "01e52e27f57b65c804418671a7d1b45d0d8a14171d8f0471993f5efd97307d9f", func := "levelling/levellinglaw06.GivensTells", spec := "givensTells", inPlace := ["math.Float64bits", "math.Float64frombits", "math.sqrt"], apart := false }
def GivensTellsSaid : Prop := givensTellsRow.holds Try.pinned (OpenSpec.ofChange givensTellsSpec)

/-- ITS FALSE NEIGHBOUR: 'it returns false'. Refute it at one input. -/
def givensTellsWrong : ChangeSpec := { name := "givensTells", fn := fun _ => fun
  | [d1, d2] => { results := [.lit (.bool false)], args := [d1, d2] }
  | _ => none }
def GivensTellsWrongFalsely : Prop := givensTellsRow.holds Try.pinned (OpenSpec.ofChange givensTellsWrong)

/-- 'levellinglaw06.GivensLowers': WHATEVER THE INPUT: true; the input reads as it did. -/
def givensLowersSpec : ChangeSpec := { name := "givensLowers", fn := fun _ => fun
  | [d1, d2] => { results := [.lit (.bool true)], args := [d1, d2] }
  | _ => none }
def givensLowersRow : OpenClaim := { program := "ytcoaachajdomcaa", sum := "01e52e27f57b65c804418671a7d1b45d0d8a14171d8f0471993f5efd97307d9f", func := "levelling/levellinglaw06.GivensLowers", spec := "givensLowers", inPlace := ["math.Float64bits", "math.Float64frombits", "math.sqrt"], apart := false }
def GivensLowersSaid : Prop := givensLowersRow.holds Try.pinned (OpenSpec.ofChange givensLowersSpec)

/-- ITS FALSE NEIGHBOUR: 'it returns false'. Refute it at one input. -/
def givensLowersWrong : ChangeSpec := { name := "givensLowers", fn := fun _ => fun
  | [d1, d2] => { results := [.lit (.bool false)], args := [d1, d2] }
  | _ => none }
def GivensLowersWrongFalsely : Prop := givensLowersRow.holds Try.pinned (OpenSpec.ofChange givensLowersWrong)

/-- 'levellinglaw05.KernScales': WHATEVER THE INPUT: true; the input reads as it did. -/
def kernScalesSpec : ChangeSpec := { name := "kernScales", fn := fun _ => fun
  | [d1, d2, d3] => { results := [.lit (.bool true)], args := [d1, d2, d3] }
  | _ => none }
def kernScalesRow : OpenClaim := { program := "ytcoaachajdomcaa", sum := "01e52e27f57b65c804418671a7d1b45d0d8a14171d8f0471993f5efd97307d9f", func := "levelling/levellinglaw05.KernScales", spec := "kernScales", inPlace := ["math.Float64bits", "math.Float64frombits", "math.sqrt"], unfollowed := true, recurses := true, apart := false }
def KernScalesSaid : Prop := kernScalesRow.holds Try.pinned (OpenSpec.ofChange kernScalesSpec)

/-- ITS FALSE NEIGHBOUR: 'it returns false'. Refute it at one input. -/
def kernScalesWrong : ChangeSpec := { name := "kernScales", fn := fun _ => fun
  | [d1, d2, d3] => { results := [.lit (.bool false)], args := [d1, d2, d3] }
  | _ => none }
def KernScalesWrongFalsely : Prop := kernScalesRow.holds Try.pinned (OpenSpec.ofChange kernScalesWrong)

/- THE SECOND FORM. 'bulk': how many values and letters a reading holds, each counted each time it is reached (what is shared counts as often as it is met; a slice's spare places count too). A statement '..UptoSaid' is the law's where the arguments, and the package variables that the reading takes, are together of bulk at most 1048576: NARROWER than '..Said'. Prove '..Said' where nothing that the law and all that it calls make is longer than what came in: it says more and counts as full. Else prove '..UptoSaid'. A law counts once. -/
mutual
def uptoBulk {H : Type} : DataW H → Nat
  | .lit (.string bytes) => bytes.length + 1
  | .lit _ => 1
  | .nil => 1
  | .ptr d => uptoBulk d + 1
  | .slice elems spare => uptoBulkAll elems + uptoBulkAll spare + 1
  | .agg parts => uptoBulkAll parts + 1
  | .iface _ d => uptoBulk d + 1
  | .map entries => uptoBulkEntries entries + 1
  | .held _ => 1
def uptoBulkAll {H : Type} : List (DataW H) → Nat
  | [] => 0
  | d :: r => uptoBulk d + uptoBulkAll r
def uptoBulkEntries {H : Type} : List (Lit × DataW H) → Nat
  | [] => 0
  | x :: r => uptoBulkEntry x + uptoBulkEntries r
def uptoBulkEntry {H : Type} : Lit × DataW H → Nat
  | (.string bytes, d) => bytes.length + uptoBulk d + 1
  | (_, d) => uptoBulk d + 1
 end
def uptoSmall : (H : Type) → List (DataW H) → Bool := fun _ ds => decide (uptoBulkAll ds ≤ 1048576)
def OpenSpec.upto (s : _root_.Go.ChangeSpec) : _root_.Go.OpenSpec := { _root_.Go.OpenSpec.ofChange s with cond := some uptoSmall }

/-- 'levellinglaw05.KernTells', WHERE WHAT IT READS IS OF BULK AT MOST 1048576: true; the input reads as it did. -/
def kernTellsUptoRow : OpenClaim := { program := "ytcoaachajdomcaa", sum := "01e52e27f57b65c804418671a7d1b45d0d8a14171d8f0471993f5efd97307d9f", func := "levelling/levellinglaw05.KernTells", spec := "kernTells", inPlace := ["math.Float64bits", "math.Float64frombits", "math.sqrt"], unfollowed := true, recurses := true, apart := false, narrowed := true }
def KernTellsUptoSaid : Prop := kernTellsUptoRow.holds Try.pinned (OpenSpec.upto kernTellsSpec)

/-- 'levellinglaw05.KernMost', WHERE WHAT IT READS IS OF BULK AT MOST 1048576: true; the input reads as it did. -/
def kernMostUptoRow : OpenClaim := { program := "ytcoaachajdomcaa", sum := "01e52e27f57b65c804418671a7d1b45d0d8a14171d8f0471993f5efd97307d9f", func := "levelling/levellinglaw05.KernMost", spec := "kernMost", inPlace := ["math.Float64bits", "math.Float64frombits", "math.sqrt"], unfollowed := true, recurses := true, apart := false, narrowed := true }
def KernMostUptoSaid : Prop := kernMostUptoRow.holds Try.pinned (OpenSpec.upto kernMostSpec)

/-- 'levellinglaw06.GivensTells', WHERE WHAT IT READS IS OF BULK AT MOST 1048576: true; the input reads as it did. -/
def givensTellsUptoRow : OpenClaim := { program := "ytcoaachajdomcaa", sum := "01e52e27f57b65c804418671a7d1b45d0d8a14171d8f0471993f5efd97307d9f", func := "levelling/levellinglaw06.GivensTells", spec := "givensTells", inPlace := ["math.Float64bits", "math.Float64frombits", "math.sqrt"], apart := false, narrowed := true }
def GivensTellsUptoSaid : Prop := givensTellsUptoRow.holds Try.pinned (OpenSpec.upto givensTellsSpec)

/-- 'levellinglaw06.GivensLowers', WHERE WHAT IT READS IS OF BULK AT MOST 1048576: true; the input reads as it did. -/
def givensLowersUptoRow : OpenClaim := { program := "ytcoaachajdomcaa", sum := "01e52e27f57b65c804418671a7d1b45d0d8a14171d8f0471993f5efd97307d9f", func := "levelling/levellinglaw06.GivensLowers", spec := "givensLowers", inPlace := ["math.Float64bits", "math.Float64frombits", "math.sqrt"], apart := false, narrowed := true }
def GivensLowersUptoSaid : Prop := givensLowersUptoRow.holds Try.pinned (OpenSpec.upto givensLowersSpec)

/-- 'levellinglaw05.KernScales', WHERE WHAT IT READS IS OF BULK AT MOST 1048576: true; the input reads as it did. -/
def kernScalesUptoRow : OpenClaim := { program := "ytcoaachajdomcaa", sum := "01e52e27f57b65c804418671a7d1b45d0d8a14171d8f0471993f5efd97307d9f", func := "levelling/levellinglaw05.KernScales", spec := "kernScales", inPlace := ["math.Float64bits", "math.Float64frombits", "math.sqrt"], unfollowed := true, recurses := true, apart := false, narrowed := true }
def KernScalesUptoSaid : Prop := kernScalesUptoRow.holds Try.pinned (OpenSpec.upto kernScalesSpec)

end Rows
end Go.Proofs.Ytcoaachajdomcaa
