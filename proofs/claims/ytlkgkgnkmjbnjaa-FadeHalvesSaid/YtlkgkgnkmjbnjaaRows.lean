/-
  No cell of these rows narrows 'for every input' (looked for: loops, veiled, ifaces, maps, wideKeys, modest, calm, conditions, laid).
  DERIVED. THE GIVEN ROWS OF THIS SEAT. 9 by the template 'for every input the law returns true; each argument reads behind the call as it read before'; 0 by the template 'total and deterministic' (their statements: YtlkgkgnkmjbnjaaTotals.lean).
  GIVEN WITH THE SEED: the statements are not yours to turn. If you find one false, say at which input.
  Laid BY PROGRAM, IN A SANDBOX (cutbox-rows.mjs): the forced cells as the released guide's own fill.sh prints them over the translation fbfd9f60a6e3cddc… (all of the seat's roots in one cut). By AI agents, Wed Nov 11 2026. No macro, syntax, notation, axiom, sorry.
-/
import Derived.Test.YtlkgkgnkmjbnjaaChecked
import GoSem.Claim
import GoSem.ClaimJoined
import GoSem.ClaimMapViews
import Derived.JoinedTies
import Derived.KernelRfl
namespace Go.Proofs.Ytlkgkgnkmjbnjaa
/- THE CELL 'sum', in the pinned program and in every row, IS THE sha256 OF THE DUMP (.gsa) THAT YtlkgkgnkmjbnjaaProg.lean LOADS. Nothing in Lean hashes anything: it is a label: what it is worth is what the hold of that sum in a sandbox is worth. -/
noncomputable def Try.pinned : Pinned := { name := "ytlkgkgnkmjbnjaa", sum := "fbfd9f60a6e3cddc6bdd0153152b9ef45a9f5e9a09b2f1bdf83181648c603750", checked := Try.checked }
namespace Rows
def none {H : Type} : Left H := { results := [], args := [] }

/-- 'levellinglaw12.FadeTells': WHATEVER THE INPUT: true; the input reads as it did. -/
def fadeTellsSpec : ChangeSpec := { name := "fadeTells", fn := fun _ => fun
  | [d1, d2, d3] => { results := [.lit (.bool true)], args := [d1, d2, d3] }
  | _ => none }
def fadeTellsRow : OpenClaim := { program := "ytlkgkgnkmjbnjaa", sum := "fbfd9f60a6e3cddc6bdd0153152b9ef45a9f5e9a09b2f1bdf83181648c603750", func := "levelling/levellinglaw12.FadeTells", spec := "fadeTells", inPlace := ["math.Float64bits", "math.Float64frombits"], unfollowed := true, recurses := true, apart := false }
def FadeTellsSaid : Prop := fadeTellsRow.holds Try.pinned (OpenSpec.ofChange fadeTellsSpec)

/-- ITS FALSE NEIGHBOUR: 'it returns false'. Refute it at one input. -/
def fadeTellsWrong : ChangeSpec := { name := "fadeTells", fn := fun _ => fun
  | [d1, d2, d3] => { results := [.lit (.bool false)], args := [d1, d2, d3] }
  | _ => none }
def FadeTellsWrongFalsely : Prop := fadeTellsRow.holds Try.pinned (OpenSpec.ofChange fadeTellsWrong)

/-- 'levellinglaw12.FadeAll': WHATEVER THE INPUT: true; the input reads as it did. -/
def fadeAllSpec : ChangeSpec := { name := "fadeAll", fn := fun _ => fun
  | [d1, d2, d3] => { results := [.lit (.bool true)], args := [d1, d2, d3] }
  | _ => none }
def fadeAllRow : OpenClaim := { program := "ytlkgkgnkmjbnjaa", sum := "fbfd9f60a6e3cddc6bdd0153152b9ef45a9f5e9a09b2f1bdf83181648c603750", func := "levelling/levellinglaw12.FadeAll", spec := "fadeAll", inPlace := ["math.Float64bits", "math.Float64frombits"], unfollowed := true, recurses := true, apart := false }
def FadeAllSaid : Prop := fadeAllRow.holds Try.pinned (OpenSpec.ofChange fadeAllSpec)

/-- ITS FALSE NEIGHBOUR: 'it returns false'. Refute it at one input. -/
def fadeAllWrong : ChangeSpec := { name := "fadeAll", fn := fun _ => fun
  | [d1, d2, d3] => { results := [.lit (.bool false)], args := [d1, d2, d3] }
  | _ => none }
def FadeAllWrongFalsely : Prop := fadeAllRow.holds Try.pinned (OpenSpec.ofChange fadeAllWrong)

/-- 'levellinglaw12.FadeMay': WHATEVER THE INPUT: true; the input reads as it did. -/
def fadeMaySpec : ChangeSpec := { name := "fadeMay", fn := fun _ => fun
  | [d1, d2] => { results := [.lit (.bool true)], args := [d1, d2] }
  | _ => none }
def fadeMayRow : OpenClaim := { program := "ytlkgkgnkmjbnjaa", sum := "fbfd9f60a6e3cddc6bdd0153152b9ef45a9f5e9a09b2f1bdf83181648c603750", func := "levelling/levellinglaw12.FadeMay", spec := "fadeMay", inPlace := ["math.Float64bits", "math.Float64frombits"], unfollowed := true, recurses := true, apart := false }
def FadeMaySaid : Prop := fadeMayRow.holds Try.pinned (OpenSpec.ofChange fadeMaySpec)

/-- ITS FALSE NEIGHBOUR: 'it returns false'. Refute it at one input. -/
def fadeMayWrong : ChangeSpec := { name := "fadeMay", fn := fun _ => fun
  | [d1, d2] => { results := [.lit (.bool false)], args := [d1, d2] }
  | _ => none }
def FadeMayWrongFalsely : Prop := fadeMayRow.holds Try.pinned (OpenSpec.ofChange fadeMayWrong)

/-- 'levellinglaw12.FadeOne': WHATEVER THE INPUT: true; the input reads as it did. -/
def fadeOneSpec : ChangeSpec := { name := "fadeOne", fn := fun _ => fun
  | [d] => { results := [.lit (.bool true)], args := [d] }
  | _ => none }
def fadeOneRow : OpenClaim := { program := "ytlkgkgnkmjbnjaa", sum := "fbfd9f60a6e3cddc6bdd0153152b9ef45a9f5e9a09b2f1bdf83181648c603750", func := "levelling/levellinglaw12.FadeOne", spec := "fadeOne", inPlace := ["math.Float64bits", "math.Float64frombits"], unfollowed := true, recurses := true, apart := false }
def FadeOneSaid : Prop := fadeOneRow.holds Try.pinned (OpenSpec.ofChange fadeOneSpec)

/-- ITS FALSE NEIGHBOUR: 'it returns false'. Refute it at one input. -/
def fadeOneWrong : ChangeSpec := { name := "fadeOne", fn := fun _ => fun
  | [d] => { results := [.lit (.bool false)], args := [d] }
  | _ => none }
def FadeOneWrongFalsely : Prop := fadeOneRow.holds Try.pinned (OpenSpec.ofChange fadeOneWrong)

/-- 'levellinglaw01.BitsTell': WHATEVER THE INPUT: true; the input reads as it did. -/
def bitsTellSpec : ChangeSpec := { name := "bitsTell", fn := fun _ => fun
  | [d1, d2] => { results := [.lit (.bool true)], args := [d1, d2] }
  | _ => none }
def bitsTellRow : OpenClaim := { program := "ytlkgkgnkmjbnjaa", sum := "fbfd9f60a6e3cddc6bdd0153152b9ef45a9f5e9a09b2f1bdf83181648c603750", func := "levelling/levellinglaw01.BitsTell", spec := "bitsTell", inPlace := ["math.Float64bits", "math.Float64frombits"], apart := false }
def BitsTellSaid : Prop := bitsTellRow.holds Try.pinned (OpenSpec.ofChange bitsTellSpec)

/-- ITS FALSE NEIGHBOUR: 'it returns false'. Refute it at one input. -/
def bitsTellWrong : ChangeSpec := { name := "bitsTell", fn := fun _ => fun
  | [d1, d2] => { results := [.lit (.bool false)], args := [d1, d2] }
  | _ => none }
def BitsTellWrongFalsely : Prop := bitsTellRow.holds Try.pinned (OpenSpec.ofChange bitsTellWrong)

/-- 'levellinglaw01.BitsMake': WHATEVER THE INPUT: true; the input reads as it did. -/
def bitsMakeSpec : ChangeSpec := { name := "bitsMake", fn := fun _ => fun
  | [d1, d2, d3] => { results := [.lit (.bool true)], args := [d1, d2, d3] }
  | _ => none }
def bitsMakeRow : OpenClaim := { program := "ytlkgkgnkmjbnjaa", sum := "fbfd9f60a6e3cddc6bdd0153152b9ef45a9f5e9a09b2f1bdf83181648c603750", func := "levelling/levellinglaw01.BitsMake", spec := "bitsMake", inPlace := ["math.Float64bits", "math.Float64frombits"], apart := false }
def BitsMakeSaid : Prop := bitsMakeRow.holds Try.pinned (OpenSpec.ofChange bitsMakeSpec)

/-- ITS FALSE NEIGHBOUR: 'it returns false'. Refute it at one input. -/
def bitsMakeWrong : ChangeSpec := { name := "bitsMake", fn := fun _ => fun
  | [d1, d2, d3] => { results := [.lit (.bool false)], args := [d1, d2, d3] }
  | _ => none }
def BitsMakeWrongFalsely : Prop := bitsMakeRow.holds Try.pinned (OpenSpec.ofChange bitsMakeWrong)

/-- 'levellinglaw01.BitsScale': WHATEVER THE INPUT: true; the input reads as it did. -/
def bitsScaleSpec : ChangeSpec := { name := "bitsScale", fn := fun _ => fun
  | [d1, d2] => { results := [.lit (.bool true)], args := [d1, d2] }
  | _ => none }
def bitsScaleRow : OpenClaim := { program := "ytlkgkgnkmjbnjaa", sum := "fbfd9f60a6e3cddc6bdd0153152b9ef45a9f5e9a09b2f1bdf83181648c603750", func := "levelling/levellinglaw01.BitsScale", spec := "bitsScale", inPlace := ["math.Float64bits", "math.Float64frombits"], apart := false }
def BitsScaleSaid : Prop := bitsScaleRow.holds Try.pinned (OpenSpec.ofChange bitsScaleSpec)

/-- ITS FALSE NEIGHBOUR: 'it returns false'. Refute it at one input. -/
def bitsScaleWrong : ChangeSpec := { name := "bitsScale", fn := fun _ => fun
  | [d1, d2] => { results := [.lit (.bool false)], args := [d1, d2] }
  | _ => none }
def BitsScaleWrongFalsely : Prop := bitsScaleRow.holds Try.pinned (OpenSpec.ofChange bitsScaleWrong)

/-- 'levellinglaw01.BitsBack': WHATEVER THE INPUT: true; the input reads as it did. -/
def bitsBackSpec : ChangeSpec := { name := "bitsBack", fn := fun _ => fun
  | [d] => { results := [.lit (.bool true)], args := [d] }
  | _ => none }
def bitsBackRow : OpenClaim := { program := "ytlkgkgnkmjbnjaa", sum := "fbfd9f60a6e3cddc6bdd0153152b9ef45a9f5e9a09b2f1bdf83181648c603750", func := "levelling/levellinglaw01.BitsBack", spec := "bitsBack", inPlace := ["math.Float64bits", "math.Float64frombits"], apart := false }
def BitsBackSaid : Prop := bitsBackRow.holds Try.pinned (OpenSpec.ofChange bitsBackSpec)

/-- ITS FALSE NEIGHBOUR: 'it returns false'. Refute it at one input. -/
def bitsBackWrong : ChangeSpec := { name := "bitsBack", fn := fun _ => fun
  | [d] => { results := [.lit (.bool false)], args := [d] }
  | _ => none }
def BitsBackWrongFalsely : Prop := bitsBackRow.holds Try.pinned (OpenSpec.ofChange bitsBackWrong)

/-- 'levellinglaw12.FadeHalves': WHATEVER THE INPUT: true; the input reads as it did. -/
def fadeHalvesSpec : ChangeSpec := { name := "fadeHalves", fn := fun _ => fun
  | [d1, d2, d3] => { results := [.lit (.bool true)], args := [d1, d2, d3] }
  | _ => none }
def fadeHalvesRow : OpenClaim := { program := "ytlkgkgnkmjbnjaa", sum := "fbfd9f60a6e3cddc6bdd0153152b9ef45a9f5e9a09b2f1bdf83181648c603750", func := "levelling/levellinglaw12.FadeHalves", spec := "fadeHalves", inPlace := ["math.Float64bits", "math.Float64frombits"], unfollowed := true, recurses := true, apart := false }
def FadeHalvesSaid : Prop := fadeHalvesRow.holds Try.pinned (OpenSpec.ofChange fadeHalvesSpec)

/-- ITS FALSE NEIGHBOUR: 'it returns false'. Refute it at one input. -/
def fadeHalvesWrong : ChangeSpec := { name := "fadeHalves", fn := fun _ => fun
  | [d1, d2, d3] => { results := [.lit (.bool false)], args := [d1, d2, d3] }
  | _ => none }
def FadeHalvesWrongFalsely : Prop := fadeHalvesRow.holds Try.pinned (OpenSpec.ofChange fadeHalvesWrong)

/- THE SECOND FORM. 'bulk': how many values and letters a reading holds, each counted each time it is reached (what is shared counts as often as it is met; a slice's spare places count too). A statement '..UptoSaid' is the law's where the arguments, and the package variables that the reading takes, are together of bulk at most 1048576: NARROWER than '..Said'. Prove '..Said' where nothing that the law and all that it calls make is longer than what came in: it says more and counts as full. Else prove '..UptoSaid'. A law counts once. -/
mutual
def uptoBulk {H : Type} : DataW H → Nat
  | .lit (.string bytes) => bytes.length + 1
  | .lit _ => 1
  | .nil => 1
  | .ptr d => uptoBulk d + 1
  | .slice elems spare => uptoBulkAll elems + uptoBulkAll spare + 1
  | .agg parts => uptoBulkAll parts + 1
  | .iface _ d => uptoBulk d + 1
  | .map entries => uptoBulkEntries entries + 1
  | .held _ => 1
def uptoBulkAll {H : Type} : List (DataW H) → Nat
  | [] => 0
  | d :: r => uptoBulk d + uptoBulkAll r
def uptoBulkEntries {H : Type} : List (Lit × DataW H) → Nat
  | [] => 0
  | x :: r => uptoBulkEntry x + uptoBulkEntries r
def uptoBulkEntry {H : Type} : Lit × DataW H → Nat
  | (.string bytes, d) => bytes.length + uptoBulk d + 1
  | (_, d) => uptoBulk d + 1
 end
def uptoSmall : (H : Type) → List (DataW H) → Bool := fun _ ds => decide (uptoBulkAll ds ≤ 1048576)
def OpenSpec.upto (s : _root_.Go.ChangeSpec) : _root_.Go.OpenSpec := { _root_.Go.OpenSpec.ofChange s with cond := some uptoSmall }

/-- 'levellinglaw12.FadeTells', WHERE WHAT IT READS IS OF BULK AT MOST 1048576: true; the input reads as it did. -/
def fadeTellsUptoRow : OpenClaim := { program := "ytlkgkgnkmjbnjaa", sum := "fbfd9f60a6e3cddc6bdd0153152b9ef45a9f5e9a09b2f1bdf83181648c603750", func := "levelling/levellinglaw12.FadeTells", spec := "fadeTells", inPlace := ["math.Float64bits", "math.Float64frombits"], unfollowed := true, recurses := true, apart := false, narrowed := true }
def FadeTellsUptoSaid : Prop := fadeTellsUptoRow.holds Try.pinned (OpenSpec.upto fadeTellsSpec)

/-- 'levellinglaw12.FadeAll', WHERE WHAT IT READS IS OF BULK AT MOST 1048576: true; the input reads as it did. -/
def fadeAllUptoRow : OpenClaim := { program := "ytlkgkgnkmjbnjaa", sum := "fbfd9f60a6e3cddc6bdd0153152b9ef45a9f5e9a09b2f1bdf83181648c603750", func := "levelling/levellinglaw12.FadeAll", spec := "fadeAll", inPlace := ["math.Float64bits", "math.Float64frombits"], unfollowed := true, recurses := true, apart := false, narrowed := true }
def FadeAllUptoSaid : Prop := fadeAllUptoRow.holds Try.pinned (OpenSpec.upto fadeAllSpec)

/-- 'levellinglaw12.FadeMay', WHERE WHAT IT READS IS OF BULK AT MOST 1048576: true; the input reads as it did. -/
def fadeMayUptoRow : OpenClaim := { program := "ytlkgkgnkmjbnjaa", sum := "fbfd9f60a6e3cddc6bdd0153152b9ef45a9f5e9a09b2f1bdf83181648c603750", func := "levelling/levellinglaw12.FadeMay", spec := "fadeMay", inPlace := ["math.Float64bits", "math.Float64frombits"], unfollowed := true, recurses := true, apart := false, narrowed := true }
def FadeMayUptoSaid : Prop := fadeMayUptoRow.holds Try.pinned (OpenSpec.upto fadeMaySpec)

/-- 'levellinglaw12.FadeOne', WHERE WHAT IT READS IS OF BULK AT MOST 1048576: true; the input reads as it did. -/
def fadeOneUptoRow : OpenClaim := { program := "ytlkgkgnkmjbnjaa", sum := "fbfd9f60a6e3cddc6bdd0153152b9ef45a9f5e9a09b2f1bdf83181648c603750", func := "levelling/levellinglaw12.FadeOne", spec := "fadeOne", inPlace := ["math.Float64bits", "math.Float64frombits"], unfollowed := true, recurses := true, apart := false, narrowed := true }
def FadeOneUptoSaid : Prop := fadeOneUptoRow.holds Try.pinned (OpenSpec.upto fadeOneSpec)

/-- 'levellinglaw01.BitsTell', WHERE WHAT IT READS IS OF BULK AT MOST 1048576: true; the input reads as it did. -/
def bitsTellUptoRow : OpenClaim := { program := "ytlkgkgnkmjbnjaa", sum := "fbfd9f60a6e3cddc6bdd0153152b9ef45a9f5e9a09b2f1bdf83181648c603750", func := "levelling/levellinglaw01.BitsTell", spec := "bitsTell", inPlace := ["math.Float64bits", "math.Float64frombits"], apart := false, narrowed := true }
def BitsTellUptoSaid : Prop := bitsTellUptoRow.holds Try.pinned (OpenSpec.upto bitsTellSpec)

/-- 'levellinglaw01.BitsMake', WHERE WHAT IT READS IS OF BULK AT MOST 1048576: true; the input reads as it did. -/
def bitsMakeUptoRow : OpenClaim := { program := "ytlkgkgnkmjbnjaa", sum := "fbfd9f60a6e3cddc6bdd0153152b9ef45a9f5e9a09b2f1bdf83181648c603750", func := "levelling/levellinglaw01.BitsMake", spec := "bitsMake", inPlace := ["math.Float64bits", "math.Float64frombits"], apart := false, narrowed := true }
def BitsMakeUptoSaid : Prop := bitsMakeUptoRow.holds Try.pinned (OpenSpec.upto bitsMakeSpec)

/-- 'levellinglaw01.BitsScale', WHERE WHAT IT READS IS OF BULK AT MOST 1048576: true; the input reads as it did. -/
def bitsScaleUptoRow : OpenClaim := { program := "ytlkgkgnkmjbnjaa", sum := "fbfd9f60a6e3cddc6bdd0153152b9ef45a9f5e9a09b2f1bdf83181648c603750", func := "levelling/levellinglaw01.BitsScale", spec := "bitsScale", inPlace := ["math.Float64bits", "math.Float64frombits"], apart := false, narrowed := true }
def BitsScaleUptoSaid : Prop := bitsScaleUptoRow.holds Try.pinned (OpenSpec.upto bitsScaleSpec)

/-- 'levellinglaw01.BitsBack', WHERE WHAT IT READS IS OF BULK AT MOST 1048576: true; the input reads as it did. -/
def bitsBackUptoRow : OpenClaim := { program := "ytlkgkgnkmjbnjaa", sum := "fbfd9f60a6e3cddc6bdd0153152b9ef45a9f5e9a09b2f1bdf83181648c603750", func := "levelling/levellinglaw01.BitsBack", spec := "bitsBack", inPlace := ["math.Float64bits", "math.Float64frombits"], apart := false, narrowed := true }
def BitsBackUptoSaid : Prop := bitsBackUptoRow.holds Try.pinned (OpenSpec.upto bitsBackSpec)

/-- 'levellinglaw12.FadeHalves', WHERE WHAT IT READS IS OF BULK AT MOST 1048576: true; the input reads as it did. -/
def fadeHalvesUptoRow : OpenClaim := { program := "ytlkgkgnkmjbnjaa", sum := "fbfd9f60a6e3cddc6bdd0153152b9ef45a9f5e9a09b2f1bdf83181648c603750", func := "levelling/levellinglaw12.FadeHalves", spec := "fadeHalves", inPlace := ["math.Float64bits", "math.Float64frombits"], unfollowed := true, recurses := true, apart := false, narrowed := true }
def FadeHalvesUptoSaid : Prop := fadeHalvesUptoRow.holds Try.pinned (OpenSpec.upto fadeHalvesSpec)

end Rows
end Go.Proofs.Ytlkgkgnkmjbnjaa
