/-
  No cell of these rows narrows 'for every input' (looked for: loops, veiled, ifaces, maps, wideKeys, modest, calm, conditions, laid).
  DERIVED. THE GIVEN ROWS OF THIS SEAT. 7 by the template 'for every input the law returns true; each argument reads behind the call as it read before'; 0 by the template 'total and deterministic' (their statements: YtghoephmihogeaaTotals.lean).
  GIVEN WITH THE SEED: the statements are not yours to turn. If you find one false, say at which input.
  Laid BY PROGRAM, IN A SANDBOX (cutbox-rows.mjs): the forced cells as the released guide's own fill.sh prints them over the translation acd320472d6cc1d0… (all of the seat's roots in one cut). By AI agents, Wed Nov 11 2026. No macro, syntax, notation, axiom, sorry.
-/
import Derived.Test.YtghoephmihogeaaChecked
import GoSem.Claim
import GoSem.ClaimJoined
import GoSem.ClaimMapViews
import Derived.JoinedTies
import Derived.KernelRfl
namespace Go.Proofs.Ytghoephmihogeaa
/- THE CELL 'sum', in the pinned program and in every row, IS THE sha256 OF THE DUMP (.gsa) THAT YtghoephmihogeaaProg.lean LOADS. Nothing in Lean hashes anything: it is a label: what it is worth is what the hold of that sum in a sandbox is worth. -/
noncomputable def Try.pinned : Pinned := { name := "ytghoephmihogeaa", sum := "acd320472d6cc1d05bc83f91324b1aeff48e003010348b7490c3d67f86896b76", checked := Try.checked }
namespace Rows
def none {H : Type} : Left H := { results := [], args := [] }

/-- 'levellinglaw15.SnapFloats': WHATEVER THE INPUT: true; the input reads as it did. -/
def snapFloatsSpec : ChangeSpec := { name := "snapFloats", fn := fun _ => fun
  | [d1, d2, d3] => { results := [.lit (.bool true)], args := [d1, d2, d3] }
  | _ => none }
def snapFloatsRow : OpenClaim := { program := "ytghoephmihogeaa", sum := "acd320472d6cc1d05bc83f91324b1aeff48e003010348b7490c3d67f86896b76", func := "levelling/levellinglaw15.SnapFloats", spec := "snapFloats", inPlace := ["math.Float64bits", "math.Float64frombits", "internal/abi.NoEscape"], unfollowed := true, recurses := true, apart := false }
def SnapFloatsSaid : Prop := snapFloatsRow.holds Try.pinned (OpenSpec.ofChange snapFloatsSpec)

/-- ITS FALSE NEIGHBOUR: 'it returns false'. Refute it at one input. -/
def snapFloatsWrong : ChangeSpec := { name := "snapFloats", fn := fun _ => fun
  | [d1, d2, d3] => { results := [.lit (.bool false)], args := [d1, d2, d3] }
  | _ => none }
def SnapFloatsWrongFalsely : Prop := snapFloatsRow.holds Try.pinned (OpenSpec.ofChange snapFloatsWrong)

/-- 'levellinglaw15.SnapTells': WHATEVER THE INPUT: true; the input reads as it did. -/
def snapTellsSpec : ChangeSpec := { name := "snapTells", fn := fun _ => fun
  | [d1, d2] => { results := [.lit (.bool true)], args := [d1, d2] }
  | _ => none }
def snapTellsRow : OpenClaim := { program := "ytghoephmihogeaa", sum := "acd320472d6cc1d05bc83f91324b1aeff48e003010348b7490c3d67f86896b76", func := "levelling/levellinglaw15.SnapTells", spec := "snapTells", inPlace := ["math.Float64bits", "math.Float64frombits", "internal/abi.NoEscape"], unfollowed := true, recurses := true, apart := false }
def SnapTellsSaid : Prop := snapTellsRow.holds Try.pinned (OpenSpec.ofChange snapTellsSpec)

/-- ITS FALSE NEIGHBOUR: 'it returns false'. Refute it at one input. -/
def snapTellsWrong : ChangeSpec := { name := "snapTells", fn := fun _ => fun
  | [d1, d2] => { results := [.lit (.bool false)], args := [d1, d2] }
  | _ => none }
def SnapTellsWrongFalsely : Prop := snapTellsRow.holds Try.pinned (OpenSpec.ofChange snapTellsWrong)

/-- 'levellinglaw15.SnapFloatBack': WHATEVER THE INPUT: true; the input reads as it did. -/
def snapFloatBackSpec : ChangeSpec := { name := "snapFloatBack", fn := fun _ => fun
  | [d1, d2, d3] => { results := [.lit (.bool true)], args := [d1, d2, d3] }
  | _ => none }
def snapFloatBackRow : OpenClaim := { program := "ytghoephmihogeaa", sum := "acd320472d6cc1d05bc83f91324b1aeff48e003010348b7490c3d67f86896b76", func := "levelling/levellinglaw15.SnapFloatBack", spec := "snapFloatBack", inPlace := ["math.Float64bits", "math.Float64frombits", "internal/abi.NoEscape"], unfollowed := true, recurses := true, apart := false }
def SnapFloatBackSaid : Prop := snapFloatBackRow.holds Try.pinned (OpenSpec.ofChange snapFloatBackSpec)

/-- ITS FALSE NEIGHBOUR: 'it returns false'. Refute it at one input. -/
def snapFloatBackWrong : ChangeSpec := { name := "snapFloatBack", fn := fun _ => fun
  | [d1, d2, d3] => { results := [.lit (.bool false)], args := [d1, d2, d3] }
  | _ => none }
def SnapFloatBackWrongFalsely : Prop := snapFloatBackRow.holds Try.pinned (OpenSpec.ofChange snapFloatBackWrong)

/-- 'levellinglaw15.SnapBack': WHATEVER THE INPUT: true; the input reads as it did. -/
def snapBackSpec : ChangeSpec := { name := "snapBack", fn := fun _ => fun
  | [d] => { results := [.lit (.bool true)], args := [d] }
  | _ => none }
def snapBackRow : OpenClaim := { program := "ytghoephmihogeaa", sum := "acd320472d6cc1d05bc83f91324b1aeff48e003010348b7490c3d67f86896b76", func := "levelling/levellinglaw15.SnapBack", spec := "snapBack", inPlace := ["math.Float64bits", "math.Float64frombits", "internal/abi.NoEscape"], unfollowed := true, recurses := true, apart := false }
def SnapBackSaid : Prop := snapBackRow.holds Try.pinned (OpenSpec.ofChange snapBackSpec)

/-- ITS FALSE NEIGHBOUR: 'it returns false'. Refute it at one input. -/
def snapBackWrong : ChangeSpec := { name := "snapBack", fn := fun _ => fun
  | [d] => { results := [.lit (.bool false)], args := [d] }
  | _ => none }
def SnapBackWrongFalsely : Prop := snapBackRow.holds Try.pinned (OpenSpec.ofChange snapBackWrong)

/-- 'levellinglaw15.SnapOne': WHATEVER THE INPUT: true; the input reads as it did. -/
def snapOneSpec : ChangeSpec := { name := "snapOne", fn := fun _ => fun
  | [d] => { results := [.lit (.bool true)], args := [d] }
  | _ => none }
def snapOneRow : OpenClaim := { program := "ytghoephmihogeaa", sum := "acd320472d6cc1d05bc83f91324b1aeff48e003010348b7490c3d67f86896b76", func := "levelling/levellinglaw15.SnapOne", spec := "snapOne", inPlace := ["math.Float64bits", "math.Float64frombits", "internal/abi.NoEscape"], unfollowed := true, recurses := true, apart := false }
def SnapOneSaid : Prop := snapOneRow.holds Try.pinned (OpenSpec.ofChange snapOneSpec)

/-- ITS FALSE NEIGHBOUR: 'it returns false'. Refute it at one input. -/
def snapOneWrong : ChangeSpec := { name := "snapOne", fn := fun _ => fun
  | [d] => { results := [.lit (.bool false)], args := [d] }
  | _ => none }
def SnapOneWrongFalsely : Prop := snapOneRow.holds Try.pinned (OpenSpec.ofChange snapOneWrong)

/-- 'levellinglaw15.SnapUnlike': WHATEVER THE INPUT: true; the input reads as it did. -/
def snapUnlikeSpec : ChangeSpec := { name := "snapUnlike", fn := fun _ => fun
  | [d1, d2] => { results := [.lit (.bool true)], args := [d1, d2] }
  | _ => none }
def snapUnlikeRow : OpenClaim := { program := "ytghoephmihogeaa", sum := "acd320472d6cc1d05bc83f91324b1aeff48e003010348b7490c3d67f86896b76", func := "levelling/levellinglaw15.SnapUnlike", spec := "snapUnlike", inPlace := ["math.Float64bits", "math.Float64frombits", "internal/abi.NoEscape"], unfollowed := true, recurses := true, apart := false }
def SnapUnlikeSaid : Prop := snapUnlikeRow.holds Try.pinned (OpenSpec.ofChange snapUnlikeSpec)

/-- ITS FALSE NEIGHBOUR: 'it returns false'. Refute it at one input. -/
def snapUnlikeWrong : ChangeSpec := { name := "snapUnlike", fn := fun _ => fun
  | [d1, d2] => { results := [.lit (.bool false)], args := [d1, d2] }
  | _ => none }
def SnapUnlikeWrongFalsely : Prop := snapUnlikeRow.holds Try.pinned (OpenSpec.ofChange snapUnlikeWrong)

/-- 'levellinglaw15.SnapShort': WHATEVER THE INPUT: true; the input reads as it did. -/
def snapShortSpec : ChangeSpec := { name := "snapShort", fn := fun _ => fun
  | [d1, d2, d3] => { results := [.lit (.bool true)], args := [d1, d2, d3] }
  | _ => none }
def snapShortRow : OpenClaim := { program := "ytghoephmihogeaa", sum := "acd320472d6cc1d05bc83f91324b1aeff48e003010348b7490c3d67f86896b76", func := "levelling/levellinglaw15.SnapShort", spec := "snapShort", inPlace := ["math.Float64bits", "math.Float64frombits", "internal/abi.NoEscape"], unfollowed := true, recurses := true, apart := false }
def SnapShortSaid : Prop := snapShortRow.holds Try.pinned (OpenSpec.ofChange snapShortSpec)

/-- ITS FALSE NEIGHBOUR: 'it returns false'. Refute it at one input. -/
def snapShortWrong : ChangeSpec := { name := "snapShort", fn := fun _ => fun
  | [d1, d2, d3] => { results := [.lit (.bool false)], args := [d1, d2, d3] }
  | _ => none }
def SnapShortWrongFalsely : Prop := snapShortRow.holds Try.pinned (OpenSpec.ofChange snapShortWrong)

/- THE SECOND FORM. 'bulk': how many values and letters a reading holds, each counted each time it is reached (what is shared counts as often as it is met; a slice's spare places count too). A statement '..UptoSaid' is the law's where the arguments, and the package variables that the reading takes, are together of bulk at most 1048576: NARROWER than '..Said'. Prove '..Said' where nothing that the law and all that it calls make is longer than what came in: it says more and counts as full. Else prove '..UptoSaid'. A law counts once. -/
mutual
def uptoBulk {H : Type} : DataW H → Nat
  | .lit (.string bytes) => bytes.length + 1
  | .lit _ => 1
  | .nil => 1
  | .ptr d => uptoBulk d + 1
  | .slice elems spare => uptoBulkAll elems + uptoBulkAll spare + 1
  | .agg parts => uptoBulkAll parts + 1
  | .iface _ d => uptoBulk d + 1
  | .map entries => uptoBulkEntries entries + 1
  | .held _ => 1
def uptoBulkAll {H : Type} : List (DataW H) → Nat
  | [] => 0
  | d :: r => uptoBulk d + uptoBulkAll r
def uptoBulkEntries {H : Type} : List (Lit × DataW H) → Nat
  | [] => 0
  | x :: r => uptoBulkEntry x + uptoBulkEntries r
def uptoBulkEntry {H : Type} : Lit × DataW H → Nat
  | (.string bytes, d) => bytes.length + uptoBulk d + 1
  | (_, d) => uptoBulk d + 1
 end
def uptoSmall : (H : Type) → List (DataW H) → Bool := fun _ ds => decide (uptoBulkAll ds ≤ 1048576)
def OpenSpec.upto (s : _root_.Go.ChangeSpec) : _root_.Go.OpenSpec := { _root_.Go.OpenSpec.ofChange s with cond := some uptoSmall }

/-- 'levellinglaw15.SnapFloats', WHERE WHAT IT READS IS OF BULK AT MOST 1048576: true; the input reads as it did. -/
def snapFloatsUptoRow : OpenClaim := { program := "ytghoephmihogeaa", sum := "acd320472d6cc1d05bc83f91324b1aeff48e003010348b7490c3d67f86896b76", func := "levelling/levellinglaw15.SnapFloats", spec := "snapFloats", inPlace := ["math.Float64bits", "math.Float64frombits", "internal/abi.NoEscape"], unfollowed := true, recurses := true, apart := false, narrowed := true }
def SnapFloatsUptoSaid : Prop := snapFloatsUptoRow.holds Try.pinned (OpenSpec.upto snapFloatsSpec)

/-- 'levellinglaw15.SnapTells', WHERE WHAT IT READS IS OF BULK AT MOST 1048576: true; the input reads as it did. -/
def snapTellsUptoRow : OpenClaim := { program := "ytghoephmihogeaa", sum := "acd320472d6cc1d05bc83f91324b1aeff48e003010348b7490c3d67f86896b76", func := "levelling/levellinglaw15.SnapTells", spec := "snapTells", inPlace := ["math.Float64bits", "math.Float64frombits", "internal/abi.NoEscape"], unfollowed := true, recurses := true, apart := false, narrowed := true }
def SnapTellsUptoSaid : Prop := snapTellsUptoRow.holds Try.pinned (OpenSpec.upto snapTellsSpec)

/-- 'levellinglaw15.SnapFloatBack', WHERE WHAT IT READS IS OF BULK AT MOST 1048576: true; the input reads as it did. -/
def snapFloatBackUptoRow : OpenClaim := { program := "ytghoephmihogeaa", sum := "acd320472d6cc1d05bc83f91324b1aeff48e003010348b7490c3d67f86896b76", func := "levelling/levellinglaw15.SnapFloatBack", spec := "snapFloatBack", inPlace := ["math.Float64bits", "math.Float64frombits", "internal/abi.NoEscape"], unfollowed := true, recurses := true, apart := false, narrowed := true }
def SnapFloatBackUptoSaid : Prop := snapFloatBackUptoRow.holds Try.pinned (OpenSpec.upto snapFloatBackSpec)

/-- 'levellinglaw15.SnapBack', WHERE WHAT IT READS IS OF BULK AT MOST 1048576: true; the input reads as it did. -/
def snapBackUptoRow : OpenClaim := { program := "ytghoephmihogeaa", sum := "acd320472d6cc1d05bc83f91324b1aeff48e003010348b7490c3d67f86896b76", func := "levelling/levellinglaw15.SnapBack", spec := "snapBack", inPlace := ["math.Float64bits", "math.Float64frombits", "internal/abi.NoEscape"], unfollowed := true, recurses := true, apart := false, narrowed := true }
def SnapBackUptoSaid : Prop := snapBackUptoRow.holds Try.pinned (OpenSpec.upto snapBackSpec)

/-- 'levellinglaw15.SnapOne', WHERE WHAT IT READS IS OF BULK AT MOST 1048576: true; the input reads as it did. -/
def snapOneUptoRow : OpenClaim := { program := "ytghoephmihogeaa", sum := "acd320472d6cc1d05bc83f91324b1aeff48e003010348b7490c3d67f86896b76", func := "levelling/levellinglaw15.SnapOne", spec := "snapOne", inPlace := ["math.Float64bits", "math.Float64frombits", "internal/abi.NoEscape"], unfollowed := true, recurses := true, apart := false, narrowed := true }
def SnapOneUptoSaid : Prop := snapOneUptoRow.holds Try.pinned (OpenSpec.upto snapOneSpec)

/-- 'levellinglaw15.SnapUnlike', WHERE WHAT IT READS IS OF BULK AT MOST 1048576: true; the input reads as it did. -/
def snapUnlikeUptoRow : OpenClaim := { program := "ytghoephmihogeaa", sum := "acd320472d6cc1d05bc83f91324b1aeff48e003010348b7490c3d67f86896b76", func := "levelling/levellinglaw15.SnapUnlike", spec := "snapUnlike", inPlace := ["math.Float64bits", "math.Float64frombits", "internal/abi.NoEscape"], unfollowed := true, recurses := true, apart := false, narrowed := true }
def SnapUnlikeUptoSaid : Prop := snapUnlikeUptoRow.holds Try.pinned (OpenSpec.upto snapUnlikeSpec)

/-- 'levellinglaw15.SnapShort', WHERE WHAT IT READS IS OF BULK AT MOST 1048576: true; the input reads as it did. -/
def snapShortUptoRow : OpenClaim := { program := "ytghoephmihogeaa", sum := "acd320472d6cc1d05bc83f91324b1aeff48e003010348b7490c3d67f86896b76", func := "levelling/levellinglaw15.SnapShort", spec := "snapShort", inPlace := ["math.Float64bits", "math.Float64frombits", "internal/abi.NoEscape"], unfollowed := true, recurses := true, apart := false, narrowed := true }
def SnapShortUptoSaid : Prop := snapShortUptoRow.holds Try.pinned (OpenSpec.upto snapShortSpec)

end Rows
end Go.Proofs.Ytghoephmihogeaa
