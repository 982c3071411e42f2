/-
  No cell of these rows narrows 'for every input' (looked for: loops, veiled, ifaces, maps, wideKeys, modest, calm, conditions, laid).
  DERIVED. THE GIVEN ROWS OF THIS SEAT. 9 by the template 'for every input the law returns true; each argument reads behind the call as it read before'; 0 by the template 'total and deterministic' (their statements: YtbomkomipaipmaaGreatTotals.lean).
  GIVEN WITH THE SEED: the statements are not yours to turn. If you find one false, say at which input.
  Laid BY PROGRAM, IN A SANDBOX (cutbox-rows.mjs): the forced cells as the released guide's own fill.sh prints them over the translation 15a91cae865b67db… (all of the seat's roots in one cut). By AI agents, Wed Nov 11 2026. No macro, syntax, notation, axiom, sorry.
-/
import Derived.Test.YtbomkomipaipmaaGreatChecked
import GoSem.Claim
import GoSem.ClaimJoined
import GoSem.ClaimMapViews
import Derived.JoinedTies
import Derived.KernelRfl
namespace Go.Proofs.YtbomkomipaipmaaGreat
/- THE CELL 'sum', in the pinned program and in every row, IS THE sha256 OF THE DUMP (.gsa) THAT YtbomkomipaipmaaGreatProg.lean LOADS. Nothing in Lean hashes anything: it is a label: what it is worth is what the hold of that sum in a sandbox is worth. -/
noncomputable def Tryz.pinned : Pinned := { name := "ytbomkomipaipmaagreat", sum := "15a91cae865b67dbd231088840903921b70b786c6788e89230d69ec7e514dc34", checked := Tryz.checked }
namespace Rows
def none {H : Type} : Left H := { results := [], args := [] }

/-- 'callboylaw16.MachineWakes': WHATEVER THE INPUT: true; the input reads as it did. -/
def machineWakesSpec : ChangeSpec := { name := "machineWakes", fn := fun _ => fun
  | [d1, d2] => { results := [.lit (.bool true)], args := [d1, d2] }
  | _ => none }
def machineWakesRow : OpenClaim := { program := "ytbomkomipaipmaagreat", sum := "15a91cae865b67dbd231088840903921b70b786c6788e89230d69ec7e514dc34", func := "callboy/callboylaw16.MachineWakes", spec := "machineWakes", unfollowed := true, recurses := true, apart := false }
def MachineWakesSaid : Prop := machineWakesRow.holds Tryz.pinned (OpenSpec.ofChange machineWakesSpec)

/-- ITS FALSE NEIGHBOUR: 'it returns false'. Refute it at one input. -/
def machineWakesWrong : ChangeSpec := { name := "machineWakes", fn := fun _ => fun
  | [d1, d2] => { results := [.lit (.bool false)], args := [d1, d2] }
  | _ => none }
def MachineWakesWrongFalsely : Prop := machineWakesRow.holds Tryz.pinned (OpenSpec.ofChange machineWakesWrong)

/-- 'callboylaw16.MachineFalls': WHATEVER THE INPUT: true; the input reads as it did. -/
def machineFallsSpec : ChangeSpec := { name := "machineFalls", fn := fun _ => fun
  | [d1, d2] => { results := [.lit (.bool true)], args := [d1, d2] }
  | _ => none }
def machineFallsRow : OpenClaim := { program := "ytbomkomipaipmaagreat", sum := "15a91cae865b67dbd231088840903921b70b786c6788e89230d69ec7e514dc34", func := "callboy/callboylaw16.MachineFalls", spec := "machineFalls", unfollowed := true, recurses := true, apart := false }
def MachineFallsSaid : Prop := machineFallsRow.holds Tryz.pinned (OpenSpec.ofChange machineFallsSpec)

/-- ITS FALSE NEIGHBOUR: 'it returns false'. Refute it at one input. -/
def machineFallsWrong : ChangeSpec := { name := "machineFalls", fn := fun _ => fun
  | [d1, d2] => { results := [.lit (.bool false)], args := [d1, d2] }
  | _ => none }
def MachineFallsWrongFalsely : Prop := machineFallsRow.holds Tryz.pinned (OpenSpec.ofChange machineFallsWrong)

/-- 'callboylaw16.MachineLimits': WHATEVER THE INPUT: true; the input reads as it did. -/
def machineLimitsSpec : ChangeSpec := { name := "machineLimits", fn := fun _ => fun
  | [d1, d2] => { results := [.lit (.bool true)], args := [d1, d2] }
  | _ => none }
def machineLimitsRow : OpenClaim := { program := "ytbomkomipaipmaagreat", sum := "15a91cae865b67dbd231088840903921b70b786c6788e89230d69ec7e514dc34", func := "callboy/callboylaw16.MachineLimits", spec := "machineLimits", unfollowed := true, recurses := true, apart := false }
def MachineLimitsSaid : Prop := machineLimitsRow.holds Tryz.pinned (OpenSpec.ofChange machineLimitsSpec)

/-- ITS FALSE NEIGHBOUR: 'it returns false'. Refute it at one input. -/
def machineLimitsWrong : ChangeSpec := { name := "machineLimits", fn := fun _ => fun
  | [d1, d2] => { results := [.lit (.bool false)], args := [d1, d2] }
  | _ => none }
def MachineLimitsWrongFalsely : Prop := machineLimitsRow.holds Tryz.pinned (OpenSpec.ofChange machineLimitsWrong)

/-- 'callboylaw16.MachineSends': WHATEVER THE INPUT: true; the input reads as it did. -/
def machineSendsSpec : ChangeSpec := { name := "machineSends", fn := fun _ => fun
  | [d1, d2] => { results := [.lit (.bool true)], args := [d1, d2] }
  | _ => none }
def machineSendsRow : OpenClaim := { program := "ytbomkomipaipmaagreat", sum := "15a91cae865b67dbd231088840903921b70b786c6788e89230d69ec7e514dc34", func := "callboy/callboylaw16.MachineSends", spec := "machineSends", unfollowed := true, recurses := true, apart := false }
def MachineSendsSaid : Prop := machineSendsRow.holds Tryz.pinned (OpenSpec.ofChange machineSendsSpec)

/-- ITS FALSE NEIGHBOUR: 'it returns false'. Refute it at one input. -/
def machineSendsWrong : ChangeSpec := { name := "machineSends", fn := fun _ => fun
  | [d1, d2] => { results := [.lit (.bool false)], args := [d1, d2] }
  | _ => none }
def MachineSendsWrongFalsely : Prop := machineSendsRow.holds Tryz.pinned (OpenSpec.ofChange machineSendsWrong)

/-- 'callboylaw16.MachinePlays': WHATEVER THE INPUT: true; the input reads as it did. -/
def machinePlaysSpec : ChangeSpec := { name := "machinePlays", fn := fun _ => fun
  | [d1, d2] => { results := [.lit (.bool true)], args := [d1, d2] }
  | _ => none }
def machinePlaysRow : OpenClaim := { program := "ytbomkomipaipmaagreat", sum := "15a91cae865b67dbd231088840903921b70b786c6788e89230d69ec7e514dc34", func := "callboy/callboylaw16.MachinePlays", spec := "machinePlays", unfollowed := true, recurses := true, apart := false }
def MachinePlaysSaid : Prop := machinePlaysRow.holds Tryz.pinned (OpenSpec.ofChange machinePlaysSpec)

/-- ITS FALSE NEIGHBOUR: 'it returns false'. Refute it at one input. -/
def machinePlaysWrong : ChangeSpec := { name := "machinePlays", fn := fun _ => fun
  | [d1, d2] => { results := [.lit (.bool false)], args := [d1, d2] }
  | _ => none }
def MachinePlaysWrongFalsely : Prop := machinePlaysRow.holds Tryz.pinned (OpenSpec.ofChange machinePlaysWrong)

/-- 'callboylaw16.MachineRuns': WHATEVER THE INPUT: true; the input reads as it did. -/
def machineRunsSpec : ChangeSpec := { name := "machineRuns", fn := fun _ => fun
  | [d1, d2] => { results := [.lit (.bool true)], args := [d1, d2] }
  | _ => none }
def machineRunsRow : OpenClaim := { program := "ytbomkomipaipmaagreat", sum := "15a91cae865b67dbd231088840903921b70b786c6788e89230d69ec7e514dc34", func := "callboy/callboylaw16.MachineRuns", spec := "machineRuns", unfollowed := true, recurses := true, apart := false }
def MachineRunsSaid : Prop := machineRunsRow.holds Tryz.pinned (OpenSpec.ofChange machineRunsSpec)

/-- ITS FALSE NEIGHBOUR: 'it returns false'. Refute it at one input. -/
def machineRunsWrong : ChangeSpec := { name := "machineRuns", fn := fun _ => fun
  | [d1, d2] => { results := [.lit (.bool false)], args := [d1, d2] }
  | _ => none }
def MachineRunsWrongFalsely : Prop := machineRunsRow.holds Tryz.pinned (OpenSpec.ofChange machineRunsWrong)

/-- 'callboylaw16.MachineAgain': WHATEVER THE INPUT: true; the input reads as it did. -/
def machineAgainSpec : ChangeSpec := { name := "machineAgain", fn := fun _ => fun
  | [d1, d2] => { results := [.lit (.bool true)], args := [d1, d2] }
  | _ => none }
def machineAgainRow : OpenClaim := { program := "ytbomkomipaipmaagreat", sum := "15a91cae865b67dbd231088840903921b70b786c6788e89230d69ec7e514dc34", func := "callboy/callboylaw16.MachineAgain", spec := "machineAgain", unfollowed := true, recurses := true, apart := false }
def MachineAgainSaid : Prop := machineAgainRow.holds Tryz.pinned (OpenSpec.ofChange machineAgainSpec)

/-- ITS FALSE NEIGHBOUR: 'it returns false'. Refute it at one input. -/
def machineAgainWrong : ChangeSpec := { name := "machineAgain", fn := fun _ => fun
  | [d1, d2] => { results := [.lit (.bool false)], args := [d1, d2] }
  | _ => none }
def MachineAgainWrongFalsely : Prop := machineAgainRow.holds Tryz.pinned (OpenSpec.ofChange machineAgainWrong)

/-- 'callboylaw16.MachineEnds': WHATEVER THE INPUT: true; the input reads as it did. -/
def machineEndsSpec : ChangeSpec := { name := "machineEnds", fn := fun _ => fun
  | [d1, d2, d3] => { results := [.lit (.bool true)], args := [d1, d2, d3] }
  | _ => none }
def machineEndsRow : OpenClaim := { program := "ytbomkomipaipmaagreat", sum := "15a91cae865b67dbd231088840903921b70b786c6788e89230d69ec7e514dc34", func := "callboy/callboylaw16.MachineEnds", spec := "machineEnds", unfollowed := true, recurses := true, apart := false }
def MachineEndsSaid : Prop := machineEndsRow.holds Tryz.pinned (OpenSpec.ofChange machineEndsSpec)

/-- ITS FALSE NEIGHBOUR: 'it returns false'. Refute it at one input. -/
def machineEndsWrong : ChangeSpec := { name := "machineEnds", fn := fun _ => fun
  | [d1, d2, d3] => { results := [.lit (.bool false)], args := [d1, d2, d3] }
  | _ => none }
def MachineEndsWrongFalsely : Prop := machineEndsRow.holds Tryz.pinned (OpenSpec.ofChange machineEndsWrong)

/-- 'callboylaw16.MachineNil': WHATEVER THE INPUT: true; the input reads as it did. -/
def machineNilSpec : ChangeSpec := { name := "machineNil", fn := fun _ => fun
  | [d] => { results := [.lit (.bool true)], args := [d] }
  | _ => none }
def machineNilRow : OpenClaim := { program := "ytbomkomipaipmaagreat", sum := "15a91cae865b67dbd231088840903921b70b786c6788e89230d69ec7e514dc34", func := "callboy/callboylaw16.MachineNil", spec := "machineNil", unfollowed := true, recurses := true, apart := false }
def MachineNilSaid : Prop := machineNilRow.holds Tryz.pinned (OpenSpec.ofChange machineNilSpec)

/-- ITS FALSE NEIGHBOUR: 'it returns false'. Refute it at one input. -/
def machineNilWrong : ChangeSpec := { name := "machineNil", fn := fun _ => fun
  | [d] => { results := [.lit (.bool false)], args := [d] }
  | _ => none }
def MachineNilWrongFalsely : Prop := machineNilRow.holds Tryz.pinned (OpenSpec.ofChange machineNilWrong)

/- THE SECOND FORM. 'bulk': how many values and letters a reading holds, each counted each time it is reached (what is shared counts as often as it is met; a slice's spare places count too). A statement '..UptoSaid' is the law's where the arguments, and the package variables that the reading takes, are together of bulk at most 1048576: NARROWER than '..Said'. Prove '..Said' where nothing that the law and all that it calls make is longer than what came in: it says more and counts as full. Else prove '..UptoSaid'. A law counts once. -/
mutual
def uptoBulk {H : Type} : DataW H → Nat
  | .lit (.string bytes) => bytes.length + 1
  | .lit _ => 1
  | .nil => 1
  | .ptr d => uptoBulk d + 1
  | .slice elems spare => uptoBulkAll elems + uptoBulkAll spare + 1
  | .agg parts => uptoBulkAll parts + 1
  | .iface _ d => uptoBulk d + 1
  | .map entries => uptoBulkEntries entries + 1
  | .held _ => 1
def uptoBulkAll {H : Type} : List (DataW H) → Nat
  | [] => 0
  | d :: r => uptoBulk d + uptoBulkAll r
def uptoBulkEntries {H : Type} : List (Lit × DataW H) → Nat
  | [] => 0
  | x :: r => uptoBulkEntry x + uptoBulkEntries r
def uptoBulkEntry {H : Type} : Lit × DataW H → Nat
  | (.string bytes, d) => bytes.length + uptoBulk d + 1
  | (_, d) => uptoBulk d + 1
 end
def uptoSmall : (H : Type) → List (DataW H) → Bool := fun _ ds => decide (uptoBulkAll ds ≤ 1048576)
def OpenSpec.upto (s : _root_.Go.ChangeSpec) : _root_.Go.OpenSpec := { _root_.Go.OpenSpec.ofChange s with cond := some uptoSmall }

/-- 'callboylaw16.MachineWakes', WHERE WHAT IT READS IS OF BULK AT MOST 1048576: true; the input reads as it did. -/
def machineWakesUptoRow : OpenClaim := { program := "ytbomkomipaipmaagreat", sum := "15a91cae865b67dbd231088840903921b70b786c6788e89230d69ec7e514dc34", func := "callboy/callboylaw16.MachineWakes", spec := "machineWakes", unfollowed := true, recurses := true, apart := false, narrowed := true }
def MachineWakesUptoSaid : Prop := machineWakesUptoRow.holds Tryz.pinned (OpenSpec.upto machineWakesSpec)

/-- 'callboylaw16.MachineFalls', WHERE WHAT IT READS IS OF BULK AT MOST 1048576: true; the input reads as it did. -/
def machineFallsUptoRow : OpenClaim := { program := "ytbomkomipaipmaagreat", sum := "15a91cae865b67dbd231088840903921b70b786c6788e89230d69ec7e514dc34", func := "callboy/callboylaw16.MachineFalls", spec := "machineFalls", unfollowed := true, recurses := true, apart := false, narrowed := true }
def MachineFallsUptoSaid : Prop := machineFallsUptoRow.holds Tryz.pinned (OpenSpec.upto machineFallsSpec)

/-- 'callboylaw16.MachineLimits', WHERE WHAT IT READS IS OF BULK AT MOST 1048576: true; the input reads as it did. -/
def machineLimitsUptoRow : OpenClaim := { program := "ytbomkomipaipmaagreat", sum := "15a91cae865b67dbd231088840903921b70b786c6788e89230d69ec7e514dc34", func := "callboy/callboylaw16.MachineLimits", spec := "machineLimits", unfollowed := true, recurses := true, apart := false, narrowed := true }
def MachineLimitsUptoSaid : Prop := machineLimitsUptoRow.holds Tryz.pinned (OpenSpec.upto machineLimitsSpec)

/-- 'callboylaw16.MachineSends', WHERE WHAT IT READS IS OF BULK AT MOST 1048576: true; the input reads as it did. -/
def machineSendsUptoRow : OpenClaim := { program := "ytbomkomipaipmaagreat", sum := "15a91cae865b67dbd231088840903921b70b786c6788e89230d69ec7e514dc34", func := "callboy/callboylaw16.MachineSends", spec := "machineSends", unfollowed := true, recurses := true, apart := false, narrowed := true }
def MachineSendsUptoSaid : Prop := machineSendsUptoRow.holds Tryz.pinned (OpenSpec.upto machineSendsSpec)

/-- 'callboylaw16.MachinePlays', WHERE WHAT IT READS IS OF BULK AT MOST 1048576: true; the input reads as it did. -/
def machinePlaysUptoRow : OpenClaim := { program := "ytbomkomipaipmaagreat", sum := "15a91cae865b67dbd231088840903921b70b786c6788e89230d69ec7e514dc34", func := "callboy/callboylaw16.MachinePlays", spec := "machinePlays", unfollowed := true, recurses := true, apart := false, narrowed := true }
def MachinePlaysUptoSaid : Prop := machinePlaysUptoRow.holds Tryz.pinned (OpenSpec.upto machinePlaysSpec)

/-- 'callboylaw16.MachineRuns', WHERE WHAT IT READS IS OF BULK AT MOST 1048576: true; the input reads as it did. -/
def machineRunsUptoRow : OpenClaim := { program := "ytbomkomipaipmaagreat", sum := "15a91cae865b67dbd231088840903921b70b786c6788e89230d69ec7e514dc34", func := "callboy/callboylaw16.MachineRuns", spec := "machineRuns", unfollowed := true, recurses := true, apart := false, narrowed := true }
def MachineRunsUptoSaid : Prop := machineRunsUptoRow.holds Tryz.pinned (OpenSpec.upto machineRunsSpec)

/-- 'callboylaw16.MachineAgain', WHERE WHAT IT READS IS OF BULK AT MOST 1048576: true; the input reads as it did. -/
def machineAgainUptoRow : OpenClaim := { program := "ytbomkomipaipmaagreat", sum := "15a91cae865b67dbd231088840903921b70b786c6788e89230d69ec7e514dc34", func := "callboy/callboylaw16.MachineAgain", spec := "machineAgain", unfollowed := true, recurses := true, apart := false, narrowed := true }
def MachineAgainUptoSaid : Prop := machineAgainUptoRow.holds Tryz.pinned (OpenSpec.upto machineAgainSpec)

/-- 'callboylaw16.MachineEnds', WHERE WHAT IT READS IS OF BULK AT MOST 1048576: true; the input reads as it did. -/
def machineEndsUptoRow : OpenClaim := { program := "ytbomkomipaipmaagreat", sum := "15a91cae865b67dbd231088840903921b70b786c6788e89230d69ec7e514dc34", func := "callboy/callboylaw16.MachineEnds", spec := "machineEnds", unfollowed := true, recurses := true, apart := false, narrowed := true }
def MachineEndsUptoSaid : Prop := machineEndsUptoRow.holds Tryz.pinned (OpenSpec.upto machineEndsSpec)

/-- 'callboylaw16.MachineNil', WHERE WHAT IT READS IS OF BULK AT MOST 1048576: true; the input reads as it did. -/
def machineNilUptoRow : OpenClaim := { program := "ytbomkomipaipmaagreat", sum := "15a91cae865b67dbd231088840903921b70b786c6788e89230d69ec7e514dc34", func := "callboy/callboylaw16.MachineNil", spec := "machineNil", unfollowed := true, recurses := true, apart := false, narrowed := true }
def MachineNilUptoSaid : Prop := machineNilUptoRow.holds Tryz.pinned (OpenSpec.upto machineNilSpec)

end Rows
end Go.Proofs.YtbomkomipaipmaaGreat
