/-
  No cell of these rows narrows 'for every input' (looked for: loops, veiled, ifaces, maps, wideKeys, modest, calm, conditions, laid).
  DERIVED. THE GIVEN ROWS OF THIS SEAT. 11 by the template 'for every input the law returns true; each argument reads behind the call as it read before'; 0 by the template 'total and deterministic' (their statements: YtkhoelmbcmkhjaaTotals.lean).
  GIVEN WITH THE SEED: the statements are not yours to turn. If you find one false, say at which input.
  Laid BY PROGRAM, IN A SANDBOX (cutbox-rows.mjs): the forced cells as the released guide's own fill.sh prints them over the translation 0bd3dc39e737f396… (all of the seat's roots in one cut). By AI agents, Wed Nov 11 2026. No macro, syntax, notation, axiom, sorry.
-/
import Derived.Test.YtkhoelmbcmkhjaaChecked
import GoSem.Claim
import GoSem.ClaimJoined
import GoSem.ClaimMapViews
import Derived.JoinedTies
import Derived.KernelRfl
namespace Go.Proofs.Ytkhoelmbcmkhjaa
/- THE CELL 'sum', in the pinned program and in every row, IS THE sha256 OF THE DUMP (.gsa) THAT YtkhoelmbcmkhjaaProg.lean LOADS. Nothing in Lean hashes anything: it is a label: what it is worth is what the hold of that sum in a sandbox is worth. -/
noncomputable def Try.pinned : Pinned := { name := "ytkhoelmbcmkhjaa", sum := "0bd3dc39e737f3969e1d95b8f1bbc4cecbd913d69d99da7e113f43ace3669d65", checked := Try.checked }
namespace Rows
def none {H : Type} : Left H := { results := [], args := [] }

/-- 'callboylaw15.ProcPure': WHATEVER THE INPUT: true; the input reads as it did. -/
def procPureSpec : ChangeSpec := { name := "procPure", fn := fun _ => fun
  | [d] => { results := [.lit (.bool true)], args := [d] }
  | _ => none }
def procPureRow : OpenClaim := { program := "ytkhoelmbcmkhjaa", sum := "0bd3dc39e737f3969e1d95b8f1bbc4cecbd913d69d99da7e113f43ace3669d65", func := "callboy/callboylaw15.ProcPure", spec := "procPure", unfollowed := true, recurses := true, apart := false }
def ProcPureSaid : Prop := procPureRow.holds Try.pinned (OpenSpec.ofChange procPureSpec)

/-- ITS FALSE NEIGHBOUR: 'it returns false'. Refute it at one input. -/
def procPureWrong : ChangeSpec := { name := "procPure", fn := fun _ => fun
  | [d] => { results := [.lit (.bool false)], args := [d] }
  | _ => none }
def ProcPureWrongFalsely : Prop := procPureRow.holds Try.pinned (OpenSpec.ofChange procPureWrong)

/-- 'callboylaw15.ProcCounts': WHATEVER THE INPUT: true; the input reads as it did. -/
def procCountsSpec : ChangeSpec := { name := "procCounts", fn := fun _ => fun
  | [d1, d2, d3] => { results := [.lit (.bool true)], args := [d1, d2, d3] }
  | _ => none }
def procCountsRow : OpenClaim := { program := "ytkhoelmbcmkhjaa", sum := "0bd3dc39e737f3969e1d95b8f1bbc4cecbd913d69d99da7e113f43ace3669d65", func := "callboy/callboylaw15.ProcCounts", spec := "procCounts", unfollowed := true, recurses := true, apart := false }
def ProcCountsSaid : Prop := procCountsRow.holds Try.pinned (OpenSpec.ofChange procCountsSpec)

/-- ITS FALSE NEIGHBOUR: 'it returns false'. Refute it at one input. -/
def procCountsWrong : ChangeSpec := { name := "procCounts", fn := fun _ => fun
  | [d1, d2, d3] => { results := [.lit (.bool false)], args := [d1, d2, d3] }
  | _ => none }
def ProcCountsWrongFalsely : Prop := procCountsRow.holds Try.pinned (OpenSpec.ofChange procCountsWrong)

/-- 'callboylaw15.ProcTakes': WHATEVER THE INPUT: true; the input reads as it did. -/
def procTakesSpec : ChangeSpec := { name := "procTakes", fn := fun _ => fun
  | [d1, d2, d3] => { results := [.lit (.bool true)], args := [d1, d2, d3] }
  | _ => none }
def procTakesRow : OpenClaim := { program := "ytkhoelmbcmkhjaa", sum := "0bd3dc39e737f3969e1d95b8f1bbc4cecbd913d69d99da7e113f43ace3669d65", func := "callboy/callboylaw15.ProcTakes", spec := "procTakes", unfollowed := true, recurses := true, apart := false }
def ProcTakesSaid : Prop := procTakesRow.holds Try.pinned (OpenSpec.ofChange procTakesSpec)

/-- ITS FALSE NEIGHBOUR: 'it returns false'. Refute it at one input. -/
def procTakesWrong : ChangeSpec := { name := "procTakes", fn := fun _ => fun
  | [d1, d2, d3] => { results := [.lit (.bool false)], args := [d1, d2, d3] }
  | _ => none }
def ProcTakesWrongFalsely : Prop := procTakesRow.holds Try.pinned (OpenSpec.ofChange procTakesWrong)

/-- 'callboylaw06.CheckFaults': WHATEVER THE INPUT: true; the input reads as it did. -/
def checkFaultsSpec : ChangeSpec := { name := "checkFaults", fn := fun _ => fun
  | [d] => { results := [.lit (.bool true)], args := [d] }
  | _ => none }
def checkFaultsRow : OpenClaim := { program := "ytkhoelmbcmkhjaa", sum := "0bd3dc39e737f3969e1d95b8f1bbc4cecbd913d69d99da7e113f43ace3669d65", func := "callboy/callboylaw06.CheckFaults", spec := "checkFaults", unfollowed := true, recurses := true, apart := false }
def CheckFaultsSaid : Prop := checkFaultsRow.holds Try.pinned (OpenSpec.ofChange checkFaultsSpec)

/-- ITS FALSE NEIGHBOUR: 'it returns false'. Refute it at one input. -/
def checkFaultsWrong : ChangeSpec := { name := "checkFaults", fn := fun _ => fun
  | [d] => { results := [.lit (.bool false)], args := [d] }
  | _ => none }
def CheckFaultsWrongFalsely : Prop := checkFaultsRow.holds Try.pinned (OpenSpec.ofChange checkFaultsWrong)

/-- 'callboylaw06.CheckShapes': WHATEVER THE INPUT: true; the input reads as it did. -/
def checkShapesSpec : ChangeSpec := { name := "checkShapes", fn := fun _ => fun
  | [d1, d2] => { results := [.lit (.bool true)], args := [d1, d2] }
  | _ => none }
def checkShapesRow : OpenClaim := { program := "ytkhoelmbcmkhjaa", sum := "0bd3dc39e737f3969e1d95b8f1bbc4cecbd913d69d99da7e113f43ace3669d65", func := "callboy/callboylaw06.CheckShapes", spec := "checkShapes", unfollowed := true, recurses := true, apart := false }
def CheckShapesSaid : Prop := checkShapesRow.holds Try.pinned (OpenSpec.ofChange checkShapesSpec)

/-- ITS FALSE NEIGHBOUR: 'it returns false'. Refute it at one input. -/
def checkShapesWrong : ChangeSpec := { name := "checkShapes", fn := fun _ => fun
  | [d1, d2] => { results := [.lit (.bool false)], args := [d1, d2] }
  | _ => none }
def CheckShapesWrongFalsely : Prop := checkShapesRow.holds Try.pinned (OpenSpec.ofChange checkShapesWrong)

/-- 'callboylaw06.CheckGoes': WHATEVER THE INPUT: true; the input reads as it did. -/
def checkGoesSpec : ChangeSpec := { name := "checkGoes", fn := fun _ => fun
  | [d] => { results := [.lit (.bool true)], args := [d] }
  | _ => none }
def checkGoesRow : OpenClaim := { program := "ytkhoelmbcmkhjaa", sum := "0bd3dc39e737f3969e1d95b8f1bbc4cecbd913d69d99da7e113f43ace3669d65", func := "callboy/callboylaw06.CheckGoes", spec := "checkGoes", unfollowed := true, recurses := true, apart := false }
def CheckGoesSaid : Prop := checkGoesRow.holds Try.pinned (OpenSpec.ofChange checkGoesSpec)

/-- ITS FALSE NEIGHBOUR: 'it returns false'. Refute it at one input. -/
def checkGoesWrong : ChangeSpec := { name := "checkGoes", fn := fun _ => fun
  | [d] => { results := [.lit (.bool false)], args := [d] }
  | _ => none }
def CheckGoesWrongFalsely : Prop := checkGoesRow.holds Try.pinned (OpenSpec.ofChange checkGoesWrong)

/-- 'callboylaw06.CheckDead': WHATEVER THE INPUT: true; the input reads as it did. -/
def checkDeadSpec : ChangeSpec := { name := "checkDead", fn := fun _ => fun
  | [d1, d2, d3] => { results := [.lit (.bool true)], args := [d1, d2, d3] }
  | _ => none }
def checkDeadRow : OpenClaim := { program := "ytkhoelmbcmkhjaa", sum := "0bd3dc39e737f3969e1d95b8f1bbc4cecbd913d69d99da7e113f43ace3669d65", func := "callboy/callboylaw06.CheckDead", spec := "checkDead", unfollowed := true, recurses := true, apart := false }
def CheckDeadSaid : Prop := checkDeadRow.holds Try.pinned (OpenSpec.ofChange checkDeadSpec)

/-- ITS FALSE NEIGHBOUR: 'it returns false'. Refute it at one input. -/
def checkDeadWrong : ChangeSpec := { name := "checkDead", fn := fun _ => fun
  | [d1, d2, d3] => { results := [.lit (.bool false)], args := [d1, d2, d3] }
  | _ => none }
def CheckDeadWrongFalsely : Prop := checkDeadRow.holds Try.pinned (OpenSpec.ofChange checkDeadWrong)

/-- 'callboylaw06.CheckFirst': WHATEVER THE INPUT: true; the input reads as it did. -/
def checkFirstSpec : ChangeSpec := { name := "checkFirst", fn := fun _ => fun
  | [d] => { results := [.lit (.bool true)], args := [d] }
  | _ => none }
def checkFirstRow : OpenClaim := { program := "ytkhoelmbcmkhjaa", sum := "0bd3dc39e737f3969e1d95b8f1bbc4cecbd913d69d99da7e113f43ace3669d65", func := "callboy/callboylaw06.CheckFirst", spec := "checkFirst", unfollowed := true, recurses := true, apart := false }
def CheckFirstSaid : Prop := checkFirstRow.holds Try.pinned (OpenSpec.ofChange checkFirstSpec)

/-- ITS FALSE NEIGHBOUR: 'it returns false'. Refute it at one input. -/
def checkFirstWrong : ChangeSpec := { name := "checkFirst", fn := fun _ => fun
  | [d] => { results := [.lit (.bool false)], args := [d] }
  | _ => none }
def CheckFirstWrongFalsely : Prop := checkFirstRow.holds Try.pinned (OpenSpec.ofChange checkFirstWrong)

/-- 'callboylaw06.CheckLone': WHATEVER THE INPUT: true; the input reads as it did. -/
def checkLoneSpec : ChangeSpec := { name := "checkLone", fn := fun _ => fun
  | [d1, d2] => { results := [.lit (.bool true)], args := [d1, d2] }
  | _ => none }
def checkLoneRow : OpenClaim := { program := "ytkhoelmbcmkhjaa", sum := "0bd3dc39e737f3969e1d95b8f1bbc4cecbd913d69d99da7e113f43ace3669d65", func := "callboy/callboylaw06.CheckLone", spec := "checkLone", unfollowed := true, recurses := true, apart := false }
def CheckLoneSaid : Prop := checkLoneRow.holds Try.pinned (OpenSpec.ofChange checkLoneSpec)

/-- ITS FALSE NEIGHBOUR: 'it returns false'. Refute it at one input. -/
def checkLoneWrong : ChangeSpec := { name := "checkLone", fn := fun _ => fun
  | [d1, d2] => { results := [.lit (.bool false)], args := [d1, d2] }
  | _ => none }
def CheckLoneWrongFalsely : Prop := checkLoneRow.holds Try.pinned (OpenSpec.ofChange checkLoneWrong)

/-- 'callboylaw15.ProcStarts': WHATEVER THE INPUT: true; the input reads as it did. -/
def procStartsSpec : ChangeSpec := { name := "procStarts", fn := fun _ => fun
  | [d1, d2, d3] => { results := [.lit (.bool true)], args := [d1, d2, d3] }
  | _ => none }
def procStartsRow : OpenClaim := { program := "ytkhoelmbcmkhjaa", sum := "0bd3dc39e737f3969e1d95b8f1bbc4cecbd913d69d99da7e113f43ace3669d65", func := "callboy/callboylaw15.ProcStarts", spec := "procStarts", unfollowed := true, recurses := true, apart := false }
def ProcStartsSaid : Prop := procStartsRow.holds Try.pinned (OpenSpec.ofChange procStartsSpec)

/-- ITS FALSE NEIGHBOUR: 'it returns false'. Refute it at one input. -/
def procStartsWrong : ChangeSpec := { name := "procStarts", fn := fun _ => fun
  | [d1, d2, d3] => { results := [.lit (.bool false)], args := [d1, d2, d3] }
  | _ => none }
def ProcStartsWrongFalsely : Prop := procStartsRow.holds Try.pinned (OpenSpec.ofChange procStartsWrong)

/-- 'callboylaw15.ProcTyped': WHATEVER THE INPUT: true; the input reads as it did. -/
def procTypedSpec : ChangeSpec := { name := "procTyped", fn := fun _ => fun
  | [d] => { results := [.lit (.bool true)], args := [d] }
  | _ => none }
def procTypedRow : OpenClaim := { program := "ytkhoelmbcmkhjaa", sum := "0bd3dc39e737f3969e1d95b8f1bbc4cecbd913d69d99da7e113f43ace3669d65", func := "callboy/callboylaw15.ProcTyped", spec := "procTyped", unfollowed := true, recurses := true, apart := false }
def ProcTypedSaid : Prop := procTypedRow.holds Try.pinned (OpenSpec.ofChange procTypedSpec)

/-- ITS FALSE NEIGHBOUR: 'it returns false'. Refute it at one input. -/
def procTypedWrong : ChangeSpec := { name := "procTyped", fn := fun _ => fun
  | [d] => { results := [.lit (.bool false)], args := [d] }
  | _ => none }
def ProcTypedWrongFalsely : Prop := procTypedRow.holds Try.pinned (OpenSpec.ofChange procTypedWrong)

/- THE SECOND FORM. 'bulk': how many values and letters a reading holds, each counted each time it is reached (what is shared counts as often as it is met; a slice's spare places count too). A statement '..UptoSaid' is the law's where the arguments, and the package variables that the reading takes, are together of bulk at most 1048576: NARROWER than '..Said'. Prove '..Said' where nothing that the law and all that it calls make is longer than what came in: it says more and counts as full. Else prove '..UptoSaid'. A law counts once. -/
mutual
def uptoBulk {H : Type} : DataW H → Nat
  | .lit (.string bytes) => bytes.length + 1
  | .lit _ => 1
  | .nil => 1
  | .ptr d => uptoBulk d + 1
  | .slice elems spare => uptoBulkAll elems + uptoBulkAll spare + 1
  | .agg parts => uptoBulkAll parts + 1
  | .iface _ d => uptoBulk d + 1
  | .map entries => uptoBulkEntries entries + 1
  | .held _ => 1
def uptoBulkAll {H : Type} : List (DataW H) → Nat
  | [] => 0
  | d :: r => uptoBulk d + uptoBulkAll r
def uptoBulkEntries {H : Type} : List (Lit × DataW H) → Nat
  | [] => 0
  | x :: r => uptoBulkEntry x + uptoBulkEntries r
def uptoBulkEntry {H : Type} : Lit × DataW H → Nat
  | (.string bytes, d) => bytes.length + uptoBulk d + 1
  | (_, d) => uptoBulk d + 1
 end
def uptoSmall : (H : Type) → List (DataW H) → Bool := fun _ ds => decide (uptoBulkAll ds ≤ 1048576)
def OpenSpec.upto (s : _root_.Go.ChangeSpec) : _root_.Go.OpenSpec := { _root_.Go.OpenSpec.ofChange s with cond := some uptoSmall }

/-- 'callboylaw15.ProcPure', WHERE WHAT IT READS IS OF BULK AT MOST 1048576: true; the input reads as it did. -/
def procPureUptoRow : OpenClaim := { program := "ytkhoelmbcmkhjaa", sum := "0bd3dc39e737f3969e1d95b8f1bbc4cecbd913d69d99da7e113f43ace3669d65", func := "callboy/callboylaw15.ProcPure", spec := "procPure", unfollowed := true, recurses := true, apart := false, narrowed := true }
def ProcPureUptoSaid : Prop := procPureUptoRow.holds Try.pinned (OpenSpec.upto procPureSpec)

/-- 'callboylaw15.ProcCounts', WHERE WHAT IT READS IS OF BULK AT MOST 1048576: true; the input reads as it did. -/
def procCountsUptoRow : OpenClaim := { program := "ytkhoelmbcmkhjaa", sum := "0bd3dc39e737f3969e1d95b8f1bbc4cecbd913d69d99da7e113f43ace3669d65", func := "callboy/callboylaw15.ProcCounts", spec := "procCounts", unfollowed := true, recurses := true, apart := false, narrowed := true }
def ProcCountsUptoSaid : Prop := procCountsUptoRow.holds Try.pinned (OpenSpec.upto procCountsSpec)

/-- 'callboylaw15.ProcTakes', WHERE WHAT IT READS IS OF BULK AT MOST 1048576: true; the input reads as it did. -/
def procTakesUptoRow : OpenClaim := { program := "ytkhoelmbcmkhjaa", sum := "0bd3dc39e737f3969e1d95b8f1bbc4cecbd913d69d99da7e113f43ace3669d65", func := "callboy/callboylaw15.ProcTakes", spec := "procTakes", unfollowed := true, recurses := true, apart := false, narrowed := true }
def ProcTakesUptoSaid : Prop := procTakesUptoRow.holds Try.pinned (OpenSpec.upto procTakesSpec)

/-- 'callboylaw06.CheckFaults', WHERE WHAT IT READS IS OF BULK AT MOST 1048576: true; the input reads as it did. -/
def checkFaultsUptoRow : OpenClaim := { program := "ytkhoelmbcmkhjaa", sum := "0bd3dc39e737f3969e1d95b8f1bbc4cecbd913d69d99da7e113f43ace3669d65", func := "callboy/callboylaw06.CheckFaults", spec := "checkFaults", unfollowed := true, recurses := true, apart := false, narrowed := true }
def CheckFaultsUptoSaid : Prop := checkFaultsUptoRow.holds Try.pinned (OpenSpec.upto checkFaultsSpec)

/-- 'callboylaw06.CheckShapes', WHERE WHAT IT READS IS OF BULK AT MOST 1048576: true; the input reads as it did. -/
def checkShapesUptoRow : OpenClaim := { program := "ytkhoelmbcmkhjaa", sum := "0bd3dc39e737f3969e1d95b8f1bbc4cecbd913d69d99da7e113f43ace3669d65", func := "callboy/callboylaw06.CheckShapes", spec := "checkShapes", unfollowed := true, recurses := true, apart := false, narrowed := true }
def CheckShapesUptoSaid : Prop := checkShapesUptoRow.holds Try.pinned (OpenSpec.upto checkShapesSpec)

/-- 'callboylaw06.CheckGoes', WHERE WHAT IT READS IS OF BULK AT MOST 1048576: true; the input reads as it did. -/
def checkGoesUptoRow : OpenClaim := { program := "ytkhoelmbcmkhjaa", sum := "0bd3dc39e737f3969e1d95b8f1bbc4cecbd913d69d99da7e113f43ace3669d65", func := "callboy/callboylaw06.CheckGoes", spec := "checkGoes", unfollowed := true, recurses := true, apart := false, narrowed := true }
def CheckGoesUptoSaid : Prop := checkGoesUptoRow.holds Try.pinned (OpenSpec.upto checkGoesSpec)

/-- 'callboylaw06.CheckDead', WHERE WHAT IT READS IS OF BULK AT MOST 1048576: true; the input reads as it did. -/
def checkDeadUptoRow : OpenClaim := { program := "ytkhoelmbcmkhjaa", sum := "0bd3dc39e737f3969e1d95b8f1bbc4cecbd913d69d99da7e113f43ace3669d65", func := "callboy/callboylaw06.CheckDead", spec := "checkDead", unfollowed := true, recurses := true, apart := false, narrowed := true }
def CheckDeadUptoSaid : Prop := checkDeadUptoRow.holds Try.pinned (OpenSpec.upto checkDeadSpec)

/-- 'callboylaw06.CheckFirst', WHERE WHAT IT READS IS OF BULK AT MOST 1048576: true; the input reads as it did. -/
def checkFirstUptoRow : OpenClaim := { program := "ytkhoelmbcmkhjaa", sum := "0bd3dc39e737f3969e1d95b8f1bbc4cecbd913d69d99da7e113f43ace3669d65", func := "callboy/callboylaw06.CheckFirst", spec := "checkFirst", unfollowed := true, recurses := true, apart := false, narrowed := true }
def CheckFirstUptoSaid : Prop := checkFirstUptoRow.holds Try.pinned (OpenSpec.upto checkFirstSpec)

/-- 'callboylaw06.CheckLone', WHERE WHAT IT READS IS OF BULK AT MOST 1048576: true; the input reads as it did. -/
def checkLoneUptoRow : OpenClaim := { program := "ytkhoelmbcmkhjaa", sum := "0bd3dc39e737f3969e1d95b8f1bbc4cecbd913d69d99da7e113f43ace3669d65", func := "callboy/callboylaw06.CheckLone", spec := "checkLone", unfollowed := true, recurses := true, apart := false, narrowed := true }
def CheckLoneUptoSaid : Prop := checkLoneUptoRow.holds Try.pinned (OpenSpec.upto checkLoneSpec)

/-- 'callboylaw15.ProcStarts', WHERE WHAT IT READS IS OF BULK AT MOST 1048576: true; the input reads as it did. -/
def procStartsUptoRow : OpenClaim := { program := "ytkhoelmbcmkhjaa", sum := "0bd3dc39e737f3969e1d95b8f1bbc4cecbd913d69d99da7e113f43ace3669d65", func := "callboy/callboylaw15.ProcStarts", spec := "procStarts", unfollowed := true, recurses := true, apart := false, narrowed := true }
def ProcStartsUptoSaid : Prop := procStartsUptoRow.holds Try.pinned (OpenSpec.upto procStartsSpec)

/-- 'callboylaw15.ProcTyped', WHERE WHAT IT READS IS OF BULK AT MOST 1048576: true; the input reads as it did. -/
def procTypedUptoRow : OpenClaim := { program := "ytkhoelmbcmkhjaa", sum := "0bd3dc39e737f3969e1d95b8f1bbc4cecbd913d69d99da7e113f43ace3669d65", func := "callboy/callboylaw15.ProcTyped", spec := "procTyped", unfollowed := true, recurses := true, apart := false, narrowed := true }
def ProcTypedUptoSaid : Prop := procTypedUptoRow.holds Try.pinned (OpenSpec.upto procTypedSpec)

end Rows
end Go.Proofs.Ytkhoelmbcmkhjaa
