/-
  No cell of these rows narrows 'for every input' (looked for: loops, veiled, ifaces, maps, wideKeys, modest, calm, conditions, laid).
  DERIVED. THE GIVEN ROWS OF THIS SEAT. 8 by the template 'for every input the law returns true; each argument reads behind the call as it read before'; 0 by the template 'total and deterministic' (their statements: YtfnhcgpdlhndhaaTotals.lean).
  GIVEN WITH THE SEED: the statements are not yours to turn. If you find one false, say at which input.
  Laid BY PROGRAM, IN A SANDBOX (cutbox-rows.mjs): the forced cells as the released guide's own fill.sh prints them over the translation 1a803c04cbea070b… (all of the seat's roots in one cut). By AI agents, Wed Nov 11 2026. No macro, syntax, notation, axiom, sorry.
-/
import Derived.Test.YtfnhcgpdlhndhaaChecked
import GoSem.Claim
import GoSem.ClaimJoined
import GoSem.ClaimMapViews
import Derived.JoinedTies
import Derived.KernelRfl
namespace Go.Proofs.Ytfnhcgpdlhndhaa
/- THE CELL 'sum', in the pinned program and in every row, IS THE sha256 OF THE DUMP (.gsa) THAT YtfnhcgpdlhndhaaProg.lean LOADS. Nothing in Lean hashes anything: it is a label: what it is worth is what the hold of that sum in a sandbox is worth. -/
noncomputable def Try.pinned : Pinned := { name := "ytfnhcgpdlhndhaa", sum := "1a803c04cbea070b878ac5063bbadc6a2941d3ffb509ad61dae0907c3c50d1ab", checked := Try.checked }
namespace Rows
def none {H : Type} : Left H := { results := [], args := [] }

/-- 'levellinglaw05.KernDots': WHATEVER THE INPUT: true; the input reads as it did. -/
def kernDotsSpec : ChangeSpec := { name := "kernDots", fn := fun _ => fun
  | [d1, d2] => { results := [.lit (.bool true)], args := [d1, d2] }
  | _ => none }
def kernDotsRow : OpenClaim := { program := "ytfnhcgpdlhndhaa", sum := "1a803c04cbea070b878ac5063bbadc6a2941d3ffb509ad61dae0907c3c50d1ab", func := "levelling/levellinglaw05.KernDots", spec := "kernDots", inPlace := ["math.Float64bits", "math.Float64frombits", "math.sqrt"], unfollowed := true, recurses := true, apart := false }
def KernDotsSaid : Prop := kernDotsRow.holds Try.pinned (OpenSpec.ofChange kernDotsSpec)

/-- ITS FALSE NEIGHBOUR: 'it returns false'. Refute it at one input. -/
def kernDotsWrong : ChangeSpec := { name := "kernDots", fn := fun _ => fun
  | [d1, d2] => { results := [.lit (.bool false)], args := [d1, d2] }
  | _ => none }
def KernDotsWrongFalsely : Prop := kernDotsRow.holds Try.pinned (OpenSpec.ofChange kernDotsWrong)

/-- 'levellinglaw05.KernAdds': WHATEVER THE INPUT: true; the input reads as it did. -/
def kernAddsSpec : ChangeSpec := { name := "kernAdds", fn := fun _ => fun
  | [d1, d2, d3] => { results := [.lit (.bool true)], args := [d1, d2, d3] }
  | _ => none }
def kernAddsRow : OpenClaim := { program := "ytfnhcgpdlhndhaa", sum := "1a803c04cbea070b878ac5063bbadc6a2941d3ffb509ad61dae0907c3c50d1ab", func := "levelling/levellinglaw05.KernAdds", spec := "kernAdds", inPlace := ["math.Float64bits", "math.Float64frombits", "math.sqrt"], unfollowed := true, recurses := true, apart := false }
def KernAddsSaid : Prop := kernAddsRow.holds Try.pinned (OpenSpec.ofChange kernAddsSpec)

/-- ITS FALSE NEIGHBOUR: 'it returns false'. Refute it at one input. -/
def kernAddsWrong : ChangeSpec := { name := "kernAdds", fn := fun _ => fun
  | [d1, d2, d3] => { results := [.lit (.bool false)], args := [d1, d2, d3] }
  | _ => none }
def KernAddsWrongFalsely : Prop := kernAddsRow.holds Try.pinned (OpenSpec.ofChange kernAddsWrong)

/-- 'levellinglaw05.KernSizes': WHATEVER THE INPUT: true; the input reads as it did. -/
def kernSizesSpec : ChangeSpec := { name := "kernSizes", fn := fun _ => fun
  | [d] => { results := [.lit (.bool true)], args := [d] }
  | _ => none }
def kernSizesRow : OpenClaim := { program := "ytfnhcgpdlhndhaa", sum := "1a803c04cbea070b878ac5063bbadc6a2941d3ffb509ad61dae0907c3c50d1ab", func := "levelling/levellinglaw05.KernSizes", spec := "kernSizes", inPlace := ["math.Float64bits", "math.Float64frombits", "math.sqrt"], unfollowed := true, recurses := true, apart := false }
def KernSizesSaid : Prop := kernSizesRow.holds Try.pinned (OpenSpec.ofChange kernSizesSpec)

/-- ITS FALSE NEIGHBOUR: 'it returns false'. Refute it at one input. -/
def kernSizesWrong : ChangeSpec := { name := "kernSizes", fn := fun _ => fun
  | [d] => { results := [.lit (.bool false)], args := [d] }
  | _ => none }
def KernSizesWrongFalsely : Prop := kernSizesRow.holds Try.pinned (OpenSpec.ofChange kernSizesWrong)

/-- 'levellinglaw06.GivensUnit': WHATEVER THE INPUT: true; the input reads as it did. -/
def givensUnitSpec : ChangeSpec := { name := "givensUnit", fn := fun _ => fun
  | [d1, d2] => { results := [.lit (.bool true)], args := [d1, d2] }
  | _ => none }
def givensUnitRow : OpenClaim := { program := "ytfnhcgpdlhndhaa", sum := "1a803c04cbea070b878ac5063bbadc6a2941d3ffb509ad61dae0907c3c50d1ab", func := "levelling/levellinglaw06.GivensUnit", spec := "givensUnit", inPlace := ["math.Float64bits", "math.Float64frombits", "math.sqrt"], apart := false }
def GivensUnitSaid : Prop := givensUnitRow.holds Try.pinned (OpenSpec.ofChange givensUnitSpec)

/-- ITS FALSE NEIGHBOUR: 'it returns false'. Refute it at one input. -/
def givensUnitWrong : ChangeSpec := { name := "givensUnit", fn := fun _ => fun
  | [d1, d2] => { results := [.lit (.bool false)], args := [d1, d2] }
  | _ => none }
def GivensUnitWrongFalsely : Prop := givensUnitRow.holds Try.pinned (OpenSpec.ofChange givensUnitWrong)

/-- 'levellinglaw06.GivensPivot': WHATEVER THE INPUT: true; the input reads as it did. -/
def givensPivotSpec : ChangeSpec := { name := "givensPivot", fn := fun _ => fun
  | [d1, d2] => { results := [.lit (.bool true)], args := [d1, d2] }
  | _ => none }
def givensPivotRow : OpenClaim := { program := "ytfnhcgpdlhndhaa", sum := "1a803c04cbea070b878ac5063bbadc6a2941d3ffb509ad61dae0907c3c50d1ab", func := "levelling/levellinglaw06.GivensPivot", spec := "givensPivot", inPlace := ["math.Float64bits", "math.Float64frombits", "math.sqrt"], apart := false }
def GivensPivotSaid : Prop := givensPivotRow.holds Try.pinned (OpenSpec.ofChange givensPivotSpec)

/-- ITS FALSE NEIGHBOUR: 'it returns false'. Refute it at one input. -/
def givensPivotWrong : ChangeSpec := { name := "givensPivot", fn := fun _ => fun
  | [d1, d2] => { results := [.lit (.bool false)], args := [d1, d2] }
  | _ => none }
def GivensPivotWrongFalsely : Prop := givensPivotRow.holds Try.pinned (OpenSpec.ofChange givensPivotWrong)

/-- 'levellinglaw06.GivensKeeps': WHATEVER THE INPUT: true; the input reads as it did. -/
def givensKeepsSpec : ChangeSpec := { name := "givensKeeps", fn := fun _ => fun
  | [d1, d2] => { results := [.lit (.bool true)], args := [d1, d2] }
  | _ => none }
def givensKeepsRow : OpenClaim := { program := "ytfnhcgpdlhndhaa", sum := "1a803c04cbea070b878ac5063bbadc6a2941d3ffb509ad61dae0907c3c50d1ab", func := "levelling/levellinglaw06.GivensKeeps", spec := "givensKeeps", inPlace := ["math.Float64bits", "math.Float64frombits", "math.sqrt"], apart := false }
def GivensKeepsSaid : Prop := givensKeepsRow.holds Try.pinned (OpenSpec.ofChange givensKeepsSpec)

/-- ITS FALSE NEIGHBOUR: 'it returns false'. Refute it at one input. -/
def givensKeepsWrong : ChangeSpec := { name := "givensKeeps", fn := fun _ => fun
  | [d1, d2] => { results := [.lit (.bool false)], args := [d1, d2] }
  | _ => none }
def GivensKeepsWrongFalsely : Prop := givensKeepsRow.holds Try.pinned (OpenSpec.ofChange givensKeepsWrong)

/-- 'levellinglaw06.GivensBack': WHATEVER THE INPUT: true; the input reads as it did. -/
def givensBackSpec : ChangeSpec := { name := "givensBack", fn := fun _ => fun
  | [d1, d2] => { results := [.lit (.bool true)], args := [d1, d2] }
  | _ => none }
def givensBackRow : OpenClaim := { program := "ytfnhcgpdlhndhaa", sum := "1a803c04cbea070b878ac5063bbadc6a2941d3ffb509ad61dae0907c3c50d1ab", func := "levelling/levellinglaw06.GivensBack", spec := "givensBack", inPlace := ["math.Float64bits", "math.Float64frombits", "math.sqrt"], apart := false }
def GivensBackSaid : Prop := givensBackRow.holds Try.pinned (OpenSpec.ofChange givensBackSpec)

/-- ITS FALSE NEIGHBOUR: 'it returns false'. Refute it at one input. -/
def givensBackWrong : ChangeSpec := { name := "givensBack", fn := fun _ => fun
  | [d1, d2] => { results := [.lit (.bool false)], args := [d1, d2] }
  | _ => none }
def GivensBackWrongFalsely : Prop := givensBackRow.holds Try.pinned (OpenSpec.ofChange givensBackWrong)

/-- 'levellinglaw06.GivensRaises': WHATEVER THE INPUT: true; the input reads as it did. -/
def givensRaisesSpec : ChangeSpec := { name := "givensRaises", fn := fun _ => fun
  | [d1, d2] => { results := [.lit (.bool true)], args := [d1, d2] }
  | _ => none }
def givensRaisesRow : OpenClaim := { program := "ytfnhcgpdlhndhaa", sum := "1a803c04cbea070b878ac5063bbadc6a2941d3ffb509ad61dae0907c3c50d1ab", func := "levelling/levellinglaw06.GivensRaises", spec := "givensRaises", inPlace := ["math.Float64bits", "math.Float64frombits", "math.sqrt"], apart := false }
def GivensRaisesSaid : Prop := givensRaisesRow.holds Try.pinned (OpenSpec.ofChange givensRaisesSpec)

/-- ITS FALSE NEIGHBOUR: 'it returns false'. Refute it at one input. -/
def givensRaisesWrong : ChangeSpec := { name := "givensRaises", fn := fun _ => fun
  | [d1, d2] => { results := [.lit (.bool false)], args := [d1, d2] }
  | _ => none }
def GivensRaisesWrongFalsely : Prop := givensRaisesRow.holds Try.pinned (OpenSpec.ofChange givensRaisesWrong)

/- THE SECOND FORM. 'bulk': how many values and letters a reading holds, each counted each time it is reached (what is shared counts as often as it is met; a slice's spare places count too). A statement '..UptoSaid' is the law's where the arguments, and the package variables that the reading takes, are together of bulk at most 1048576: NARROWER than '..Said'. Prove '..Said' where nothing that the law and all that it calls make is longer than what came in: it says more and counts as full. Else prove '..UptoSaid'. A law counts once. -/
mutual
def uptoBulk {H : Type} : DataW H → Nat
  | .lit (.string bytes) => bytes.length + 1
  | .lit _ => 1
  | .nil => 1
  | .ptr d => uptoBulk d + 1
  | .slice elems spare => uptoBulkAll elems + uptoBulkAll spare + 1
  | .agg parts => uptoBulkAll parts + 1
  | .iface _ d => uptoBulk d + 1
  | .map entries => uptoBulkEntries entries + 1
  | .held _ => 1
def uptoBulkAll {H : Type} : List (DataW H) → Nat
  | [] => 0
  | d :: r => uptoBulk d + uptoBulkAll r
def uptoBulkEntries {H : Type} : List (Lit × DataW H) → Nat
  | [] => 0
  | x :: r => uptoBulkEntry x + uptoBulkEntries r
def uptoBulkEntry {H : Type} : Lit × DataW H → Nat
  | (.string bytes, d) => bytes.length + uptoBulk d + 1
  | (_, d) => uptoBulk d + 1
 end
def uptoSmall : (H : Type) → List (DataW H) → Bool := fun _ ds => decide (uptoBulkAll ds ≤ 1048576)
def OpenSpec.upto (s : _root_.Go.ChangeSpec) : _root_.Go.OpenSpec := { _root_.Go.OpenSpec.ofChange s with cond := some uptoSmall }

/-- 'levellinglaw05.KernDots', WHERE WHAT IT READS IS OF BULK AT MOST 1048576: true; the input reads as it did. -/
def kernDotsUptoRow : OpenClaim := { program := "ytfnhcgpdlhndhaa", sum := "1a803c04cbea070b878ac5063bbadc6a2941d3ffb509ad61dae0907c3c50d1ab", func := "levelling/levellinglaw05.KernDots", spec := "kernDots", inPlace := ["math.Float64bits", "math.Float64frombits", "math.sqrt"], unfollowed := true, recurses := true, apart := false, narrowed := true }
def KernDotsUptoSaid : Prop := kernDotsUptoRow.holds Try.pinned (OpenSpec.upto kernDotsSpec)

/-- 'levellinglaw05.KernAdds', WHERE WHAT IT READS IS OF BULK AT MOST 1048576: true; the input reads as it did. -/
def kernAddsUptoRow : OpenClaim := { program := "ytfnhcgpdlhndhaa", sum := "1a803c04cbea070b878ac5063bbadc6a2941d3ffb509ad61dae0907c3c50d1ab", func := "levelling/levellinglaw05.KernAdds", spec := "kernAdds", inPlace := ["math.Float64bits", "math.Float64frombits", "math.sqrt"], unfollowed := true, recurses := true, apart := false, narrowed := true }
def KernAddsUptoSaid : Prop := kernAddsUptoRow.holds Try.pinned (OpenSpec.upto kernAddsSpec)

/-- 'levellinglaw05.KernSizes', WHERE WHAT IT READS IS OF BULK AT MOST 1048576: true; the input reads as it did. -/
def kernSizesUptoRow : OpenClaim := { program := "ytfnhcgpdlhndhaa", sum := "1a803c04cbea070b878ac5063bbadc6a2941d3ffb509ad61dae0907c3c50d1ab", func := "levelling/levellinglaw05.KernSizes", spec := "kernSizes", inPlace := ["math.Float64bits", "math.Float64frombits", "math.sqrt"], unfollowed := true, recurses := true, apart := false, narrowed := true }
def KernSizesUptoSaid : Prop := kernSizesUptoRow.holds Try.pinned (OpenSpec.upto kernSizesSpec)

/-- 'levellinglaw06.GivensUnit', WHERE WHAT IT READS IS OF BULK AT MOST 1048576: true; the input reads as it did. -/
def givensUnitUptoRow : OpenClaim := { program := "ytfnhcgpdlhndhaa", sum := "1a803c04cbea070b878ac5063bbadc6a2941d3ffb509ad61dae0907c3c50d1ab", func := "levelling/levellinglaw06.GivensUnit", spec := "givensUnit", inPlace := ["math.Float64bits", "math.Float64frombits", "math.sqrt"], apart := false, narrowed := true }
def GivensUnitUptoSaid : Prop := givensUnitUptoRow.holds Try.pinned (OpenSpec.upto givensUnitSpec)

/-- 'levellinglaw06.GivensPivot', WHERE WHAT IT READS IS OF BULK AT MOST 1048576: true; the input reads as it did. -/
def givensPivotUptoRow : OpenClaim := { program := "ytfnhcgpdlhndhaa", sum := "1a803c04cbea070b878ac5063bbadc6a2941d3ffb509ad61dae0907c3c50d1ab", func := "levelling/levellinglaw06.GivensPivot", spec := "givensPivot", inPlace := ["math.Float64bits", "math.Float64frombits", "math.sqrt"], apart := false, narrowed := true }
def GivensPivotUptoSaid : Prop := givensPivotUptoRow.holds Try.pinned (OpenSpec.upto givensPivotSpec)

/-- 'levellinglaw06.GivensKeeps', WHERE WHAT IT READS IS OF BULK AT MOST 1048576: true; the input reads as it did. -/
def givensKeepsUptoRow : OpenClaim := { program := "ytfnhcgpdlhndhaa", sum := "1a803c04cbea070b878ac5063bbadc6a2941d3ffb509ad61dae0907c3c50d1ab", func := "levelling/levellinglaw06.GivensKeeps", spec := "givensKeeps", inPlace := ["math.Float64bits", "math.Float64frombits", "math.sqrt"], apart := false, narrowed := true }
def GivensKeepsUptoSaid : Prop := givensKeepsUptoRow.holds Try.pinned (OpenSpec.upto givensKeepsSpec)

/-- 'levellinglaw06.GivensBack', WHERE WHAT IT READS IS OF BULK AT MOST 1048576: true; the input reads as it did. -/
def givensBackUptoRow : OpenClaim := { program := "ytfnhcgpdlhndhaa", sum := "1a803c04cbea070b878ac5063bbadc6a2941d3ffb509ad61dae0907c3c50d1ab", func := "levelling/levellinglaw06.GivensBack", spec := "givensBack", inPlace := ["math.Float64bits", "math.Float64frombits", "math.sqrt"], apart := false, narrowed := true }
def GivensBackUptoSaid : Prop := givensBackUptoRow.holds Try.pinned (OpenSpec.upto givensBackSpec)

/-- 'levellinglaw06.GivensRaises', WHERE WHAT IT READS IS OF BULK AT MOST 1048576: true; the input reads as it did. -/
def givensRaisesUptoRow : OpenClaim := { program := "ytfnhcgpdlhndhaa", sum := "1a803c04cbea070b878ac5063bbadc6a2941d3ffb509ad61dae0907c3c50d1ab", func := "levelling/levellinglaw06.GivensRaises", spec := "givensRaises", inPlace := ["math.Float64bits", "math.Float64frombits", "math.sqrt"], apart := false, narrowed := true }
def GivensRaisesUptoSaid : Prop := givensRaisesUptoRow.holds Try.pinned (OpenSpec.upto givensRaisesSpec)

end Rows
end Go.Proofs.Ytfnhcgpdlhndhaa
