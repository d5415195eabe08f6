/-
  No cell of these rows narrows 'for every input' (looked for: loops, veiled, ifaces, maps, wideKeys, modest, calm, conditions, laid).
  DERIVED. THE GIVEN ROWS OF THIS SEAT. 9 by the template 'for every input the law returns true; each argument reads behind the call as it read before'; 0 by the template 'total and deterministic' (their statements: YtenfikfgliljmaaTotals.lean).
  GIVEN WITH THE SEED: the statements are not yours to turn. If you find one false, say at which input.
  Laid BY PROGRAM, IN A SANDBOX (cutbox-rows.mjs): the forced cells as the released guide's own fill.sh prints them over the translation 3596e3b1e7185e2e… (all of the seat's roots in one cut). By AI agents, Wed Nov 11 2026. No macro, syntax, notation, axiom, sorry.
-/
import Derived.Test.YtenfikfgliljmaaChecked
import GoSem.Claim
import GoSem.ClaimJoined
import GoSem.ClaimMapViews
import Derived.JoinedTies
import Derived.KernelRfl
namespace Go.Proofs.Ytenfikfgliljmaa
/- THE CELL 'sum', in the pinned program and in every row, IS THE sha256 OF THE DUMP (.gsa) THAT YtenfikfgliljmaaProg.lean LOADS. Nothing in Lean hashes anything: it is a label: what it is worth is what the hold of that sum in a sandbox is worth. -/
noncomputable def Try.pinned : Pinned := { name := "ytenfikfgliljmaa", sum := "3596e3b1e7185e2e94461746399556dffb637331632d40a30d00e7c1f306a2f8", checked := Try.checked }
namespace Rows
def none {H : Type} : Left H := { results := [], args := [] }

/-- 'bulkheadlaw9.LanesNames': WHATEVER THE INPUT: true; the input reads as it did. -/
def lanesNamesSpec : ChangeSpec := { name := "lanesNames", fn := fun _ => fun
  | [] => { results := [.lit (.bool true)], args := [] }
  | _ => none }
def lanesNamesRow : OpenClaim := { program := "ytenfikfgliljmaa", sum := "3596e3b1e7185e2e94461746399556dffb637331632d40a30d00e7c1f306a2f8", func := "bulkhead/bulkheadlaw9.LanesNames", spec := "lanesNames", unfollowed := true, recurses := true, apart := false }
def LanesNamesSaid : Prop := lanesNamesRow.holds Try.pinned (OpenSpec.ofChange lanesNamesSpec)

/-- ITS FALSE NEIGHBOUR: 'it returns false'. Refute it at one input. -/
def lanesNamesWrong : ChangeSpec := { name := "lanesNames", fn := fun _ => fun
  | [] => { results := [.lit (.bool false)], args := [] }
  | _ => none }
def LanesNamesWrongFalsely : Prop := lanesNamesRow.holds Try.pinned (OpenSpec.ofChange lanesNamesWrong)

/-- 'bulkheadlaw9.LanesFlattens': WHATEVER THE INPUT: true; the input reads as it did. -/
def lanesFlattensSpec : ChangeSpec := { name := "lanesFlattens", fn := fun _ => fun
  | [d1, d2] => { results := [.lit (.bool true)], args := [d1, d2] }
  | _ => none }
def lanesFlattensRow : OpenClaim := { program := "ytenfikfgliljmaa", sum := "3596e3b1e7185e2e94461746399556dffb637331632d40a30d00e7c1f306a2f8", func := "bulkhead/bulkheadlaw9.LanesFlattens", spec := "lanesFlattens", unfollowed := true, recurses := true, apart := false }
def LanesFlattensSaid : Prop := lanesFlattensRow.holds Try.pinned (OpenSpec.ofChange lanesFlattensSpec)

/-- ITS FALSE NEIGHBOUR: 'it returns false'. Refute it at one input. -/
def lanesFlattensWrong : ChangeSpec := { name := "lanesFlattens", fn := fun _ => fun
  | [d1, d2] => { results := [.lit (.bool false)], args := [d1, d2] }
  | _ => none }
def LanesFlattensWrongFalsely : Prop := lanesFlattensRow.holds Try.pinned (OpenSpec.ofChange lanesFlattensWrong)

/-- 'bulkheadlaw9.LanesTells': WHATEVER THE INPUT: true; the input reads as it did. -/
def lanesTellsSpec : ChangeSpec := { name := "lanesTells", fn := fun _ => fun
  | [d1, d2, d3] => { results := [.lit (.bool true)], args := [d1, d2, d3] }
  | _ => none }
def lanesTellsRow : OpenClaim := { program := "ytenfikfgliljmaa", sum := "3596e3b1e7185e2e94461746399556dffb637331632d40a30d00e7c1f306a2f8", func := "bulkhead/bulkheadlaw9.LanesTells", spec := "lanesTells", unfollowed := true, recurses := true, apart := false }
def LanesTellsSaid : Prop := lanesTellsRow.holds Try.pinned (OpenSpec.ofChange lanesTellsSpec)

/-- ITS FALSE NEIGHBOUR: 'it returns false'. Refute it at one input. -/
def lanesTellsWrong : ChangeSpec := { name := "lanesTells", fn := fun _ => fun
  | [d1, d2, d3] => { results := [.lit (.bool false)], args := [d1, d2, d3] }
  | _ => none }
def LanesTellsWrongFalsely : Prop := lanesTellsRow.holds Try.pinned (OpenSpec.ofChange lanesTellsWrong)

/-- 'bulkheadlaw9.LanesAt': WHATEVER THE INPUT: true; the input reads as it did. -/
def lanesAtSpec : ChangeSpec := { name := "lanesAt", fn := fun _ => fun
  | [d1, d2, d3] => { results := [.lit (.bool true)], args := [d1, d2, d3] }
  | _ => none }
def lanesAtRow : OpenClaim := { program := "ytenfikfgliljmaa", sum := "3596e3b1e7185e2e94461746399556dffb637331632d40a30d00e7c1f306a2f8", func := "bulkhead/bulkheadlaw9.LanesAt", spec := "lanesAt", unfollowed := true, recurses := true, apart := false }
def LanesAtSaid : Prop := lanesAtRow.holds Try.pinned (OpenSpec.ofChange lanesAtSpec)

/-- ITS FALSE NEIGHBOUR: 'it returns false'. Refute it at one input. -/
def lanesAtWrong : ChangeSpec := { name := "lanesAt", fn := fun _ => fun
  | [d1, d2, d3] => { results := [.lit (.bool false)], args := [d1, d2, d3] }
  | _ => none }
def LanesAtWrongFalsely : Prop := lanesAtRow.holds Try.pinned (OpenSpec.ofChange lanesAtWrong)

/-- 'bulkheadlaw9.LanesNeeds': WHATEVER THE INPUT: true; the input reads as it did. -/
def lanesNeedsSpec : ChangeSpec := { name := "lanesNeeds", fn := fun _ => fun
  | [d1, d2] => { results := [.lit (.bool true)], args := [d1, d2] }
  | _ => none }
def lanesNeedsRow : OpenClaim := { program := "ytenfikfgliljmaa", sum := "3596e3b1e7185e2e94461746399556dffb637331632d40a30d00e7c1f306a2f8", func := "bulkhead/bulkheadlaw9.LanesNeeds", spec := "lanesNeeds", unfollowed := true, recurses := true, apart := false }
def LanesNeedsSaid : Prop := lanesNeedsRow.holds Try.pinned (OpenSpec.ofChange lanesNeedsSpec)

/-- ITS FALSE NEIGHBOUR: 'it returns false'. Refute it at one input. -/
def lanesNeedsWrong : ChangeSpec := { name := "lanesNeeds", fn := fun _ => fun
  | [d1, d2] => { results := [.lit (.bool false)], args := [d1, d2] }
  | _ => none }
def LanesNeedsWrongFalsely : Prop := lanesNeedsRow.holds Try.pinned (OpenSpec.ofChange lanesNeedsWrong)

/-- 'bulkheadlaw9.LanesBest': WHATEVER THE INPUT: true; the input reads as it did. -/
def lanesBestSpec : ChangeSpec := { name := "lanesBest", fn := fun _ => fun
  | [d1, d2, d3] => { results := [.lit (.bool true)], args := [d1, d2, d3] }
  | _ => none }
def lanesBestRow : OpenClaim := { program := "ytenfikfgliljmaa", sum := "3596e3b1e7185e2e94461746399556dffb637331632d40a30d00e7c1f306a2f8", func := "bulkhead/bulkheadlaw9.LanesBest", spec := "lanesBest", unfollowed := true, recurses := true, apart := false }
def LanesBestSaid : Prop := lanesBestRow.holds Try.pinned (OpenSpec.ofChange lanesBestSpec)

/-- ITS FALSE NEIGHBOUR: 'it returns false'. Refute it at one input. -/
def lanesBestWrong : ChangeSpec := { name := "lanesBest", fn := fun _ => fun
  | [d1, d2, d3] => { results := [.lit (.bool false)], args := [d1, d2, d3] }
  | _ => none }
def LanesBestWrongFalsely : Prop := lanesBestRow.holds Try.pinned (OpenSpec.ofChange lanesBestWrong)

/-- 'bulkheadlaw9.LanesRuns': WHATEVER THE INPUT: true; the input reads as it did. -/
def lanesRunsSpec : ChangeSpec := { name := "lanesRuns", fn := fun _ => fun
  | [d1, d2] => { results := [.lit (.bool true)], args := [d1, d2] }
  | _ => none }
def lanesRunsRow : OpenClaim := { program := "ytenfikfgliljmaa", sum := "3596e3b1e7185e2e94461746399556dffb637331632d40a30d00e7c1f306a2f8", func := "bulkhead/bulkheadlaw9.LanesRuns", spec := "lanesRuns", unfollowed := true, recurses := true, apart := false }
def LanesRunsSaid : Prop := lanesRunsRow.holds Try.pinned (OpenSpec.ofChange lanesRunsSpec)

/-- ITS FALSE NEIGHBOUR: 'it returns false'. Refute it at one input. -/
def lanesRunsWrong : ChangeSpec := { name := "lanesRuns", fn := fun _ => fun
  | [d1, d2] => { results := [.lit (.bool false)], args := [d1, d2] }
  | _ => none }
def LanesRunsWrongFalsely : Prop := lanesRunsRow.holds Try.pinned (OpenSpec.ofChange lanesRunsWrong)

/-- 'bulkheadlaw9.LanesWindows': WHATEVER THE INPUT: true; the input reads as it did. -/
def lanesWindowsSpec : ChangeSpec := { name := "lanesWindows", fn := fun _ => fun
  | [d1, d2, d3] => { results := [.lit (.bool true)], args := [d1, d2, d3] }
  | _ => none }
def lanesWindowsRow : OpenClaim := { program := "ytenfikfgliljmaa", sum := "3596e3b1e7185e2e94461746399556dffb637331632d40a30d00e7c1f306a2f8", func := "bulkhead/bulkheadlaw9.LanesWindows", spec := "lanesWindows", unfollowed := true, recurses := true, apart := false }
def LanesWindowsSaid : Prop := lanesWindowsRow.holds Try.pinned (OpenSpec.ofChange lanesWindowsSpec)

/-- ITS FALSE NEIGHBOUR: 'it returns false'. Refute it at one input. -/
def lanesWindowsWrong : ChangeSpec := { name := "lanesWindows", fn := fun _ => fun
  | [d1, d2, d3] => { results := [.lit (.bool false)], args := [d1, d2, d3] }
  | _ => none }
def LanesWindowsWrongFalsely : Prop := lanesWindowsRow.holds Try.pinned (OpenSpec.ofChange lanesWindowsWrong)

/-- 'bulkheadlaw9.LanesKept': WHATEVER THE INPUT: true; the input reads as it did. -/
def lanesKeptSpec : ChangeSpec := { name := "lanesKept", fn := fun _ => fun
  | [d] => { results := [.lit (.bool true)], args := [d] }
  | _ => none }
def lanesKeptRow : OpenClaim := { program := "ytenfikfgliljmaa", sum := "3596e3b1e7185e2e94461746399556dffb637331632d40a30d00e7c1f306a2f8", func := "bulkhead/bulkheadlaw9.LanesKept", spec := "lanesKept", unfollowed := true, recurses := true, apart := false }
def LanesKeptSaid : Prop := lanesKeptRow.holds Try.pinned (OpenSpec.ofChange lanesKeptSpec)

/-- ITS FALSE NEIGHBOUR: 'it returns false'. Refute it at one input. -/
def lanesKeptWrong : ChangeSpec := { name := "lanesKept", fn := fun _ => fun
  | [d] => { results := [.lit (.bool false)], args := [d] }
  | _ => none }
def LanesKeptWrongFalsely : Prop := lanesKeptRow.holds Try.pinned (OpenSpec.ofChange lanesKeptWrong)

/- THE SECOND FORM. 'bulk': how many values and letters a reading holds, each counted each time it is reached (what is shared counts as often as it is met; a slice's spare places count too). A statement '..UptoSaid' is the law's where the arguments, and the package variables that the reading takes, are together of bulk at most 1048576: NARROWER than '..Said'. Prove '..Said' where nothing that the law and all that it calls make is longer than what came in: it says more and counts as full. Else prove '..UptoSaid'. A law counts once. -/
mutual
def uptoBulk {H : Type} : DataW H → Nat
  | .lit (.string bytes) => bytes.length + 1
  | .lit _ => 1
  | .nil => 1
  | .ptr d => uptoBulk d + 1
  | .slice elems spare => uptoBulkAll elems + uptoBulkAll spare + 1
  | .agg parts => uptoBulkAll parts + 1
  | .iface _ d => uptoBulk d + 1
  | .map entries => uptoBulkEntries entries + 1
  | .held _ => 1
def uptoBulkAll {H : Type} : List (DataW H) → Nat
  | [] => 0
  | d :: r => uptoBulk d + uptoBulkAll r
def uptoBulkEntries {H : Type} : List (Lit × DataW H) → Nat
  | [] => 0
  | x :: r => uptoBulkEntry x + uptoBulkEntries r
def uptoBulkEntry {H : Type} : Lit × DataW H → Nat
  | (.string bytes, d) => bytes.length + uptoBulk d + 1
  | (_, d) => uptoBulk d + 1
 end
def uptoSmall : (H : Type) → List (DataW H) → Bool := fun _ ds => decide (uptoBulkAll ds ≤ 1048576)
def OpenSpec.upto (s : _root_.Go.ChangeSpec) : _root_.Go.OpenSpec := { _root_.Go.OpenSpec.ofChange s with cond := some uptoSmall }

/-- 'bulkheadlaw9.LanesNames', WHERE WHAT IT READS IS OF BULK AT MOST 1048576: true; the input reads as it did. -/
def lanesNamesUptoRow : OpenClaim := { program := "ytenfikfgliljmaa", sum := "3596e3b1e7185e2e94461746399556dffb637331632d40a30d00e7c1f306a2f8", func := "bulkhead/bulkheadlaw9.LanesNames", spec := "lanesNames", unfollowed := true, recurses := true, apart := false, narrowed := true }
def LanesNamesUptoSaid : Prop := lanesNamesUptoRow.holds Try.pinned (OpenSpec.upto lanesNamesSpec)

/-- 'bulkheadlaw9.LanesFlattens', WHERE WHAT IT READS IS OF BULK AT MOST 1048576: true; the input reads as it did. -/
def lanesFlattensUptoRow : OpenClaim := { program := "ytenfikfgliljmaa", sum := "3596e3b1e7185e2e94461746399556dffb637331632d40a30d00e7c1f306a2f8", func := "bulkhead/bulkheadlaw9.LanesFlattens", spec := "lanesFlattens", unfollowed := true, recurses := true, apart := false, narrowed := true }
def LanesFlattensUptoSaid : Prop := lanesFlattensUptoRow.holds Try.pinned (OpenSpec.upto lanesFlattensSpec)

/-- 'bulkheadlaw9.LanesTells', WHERE WHAT IT READS IS OF BULK AT MOST 1048576: true; the input reads as it did. -/
def lanesTellsUptoRow : OpenClaim := { program := "ytenfikfgliljmaa", sum := "3596e3b1e7185e2e94461746399556dffb637331632d40a30d00e7c1f306a2f8", func := "bulkhead/bulkheadlaw9.LanesTells", spec := "lanesTells", unfollowed := true, recurses := true, apart := false, narrowed := true }
def LanesTellsUptoSaid : Prop := lanesTellsUptoRow.holds Try.pinned (OpenSpec.upto lanesTellsSpec)

/-- 'bulkheadlaw9.LanesAt', WHERE WHAT IT READS IS OF BULK AT MOST 1048576: true; the input reads as it did. -/
def lanesAtUptoRow : OpenClaim := { program := "ytenfikfgliljmaa", sum := "3596e3b1e7185e2e94461746399556dffb637331632d40a30d00e7c1f306a2f8", func := "bulkhead/bulkheadlaw9.LanesAt", spec := "lanesAt", unfollowed := true, recurses := true, apart := false, narrowed := true }
def LanesAtUptoSaid : Prop := lanesAtUptoRow.holds Try.pinned (OpenSpec.upto lanesAtSpec)

/-- 'bulkheadlaw9.LanesNeeds', WHERE WHAT IT READS IS OF BULK AT MOST 1048576: true; the input reads as it did. -/
def lanesNeedsUptoRow : OpenClaim := { program := "ytenfikfgliljmaa", sum := "3596e3b1e7185e2e94461746399556dffb637331632d40a30d00e7c1f306a2f8", func := "bulkhead/bulkheadlaw9.LanesNeeds", spec := "lanesNeeds", unfollowed := true, recurses := true, apart := false, narrowed := true }
def LanesNeedsUptoSaid : Prop := lanesNeedsUptoRow.holds Try.pinned (OpenSpec.upto lanesNeedsSpec)

/-- 'bulkheadlaw9.LanesBest', WHERE WHAT IT READS IS OF BULK AT MOST 1048576: true; the input reads as it did. -/
def lanesBestUptoRow : OpenClaim := { program := "ytenfikfgliljmaa", sum := "3596e3b1e7185e2e94461746399556dffb637331632d40a30d00e7c1f306a2f8", func := "bulkhead/bulkheadlaw9.LanesBest", spec := "lanesBest", unfollowed := true, recurses := true, apart := false, narrowed := true }
def LanesBestUptoSaid : Prop := lanesBestUptoRow.holds Try.pinned (OpenSpec.upto lanesBestSpec)

/-- 'bulkheadlaw9.LanesRuns', WHERE WHAT IT READS IS OF BULK AT MOST 1048576: true; the input reads as it did. -/
def lanesRunsUptoRow : OpenClaim := { program := "ytenfikfgliljmaa", sum := "3596e3b1e7185e2e94461746399556dffb637331632d40a30d00e7c1f306a2f8", func := "bulkhead/bulkheadlaw9.LanesRuns", spec := "lanesRuns", unfollowed := true, recurses := true, apart := false, narrowed := true }
def LanesRunsUptoSaid : Prop := lanesRunsUptoRow.holds Try.pinned (OpenSpec.upto lanesRunsSpec)

/-- 'bulkheadlaw9.LanesWindows', WHERE WHAT IT READS IS OF BULK AT MOST 1048576: true; the input reads as it did. -/
def lanesWindowsUptoRow : OpenClaim := { program := "ytenfikfgliljmaa", sum := "3596e3b1e7185e2e94461746399556dffb637331632d40a30d00e7c1f306a2f8", func := "bulkhead/bulkheadlaw9.LanesWindows", spec := "lanesWindows", unfollowed := true, recurses := true, apart := false, narrowed := true }
def LanesWindowsUptoSaid : Prop := lanesWindowsUptoRow.holds Try.pinned (OpenSpec.upto lanesWindowsSpec)

/-- 'bulkheadlaw9.LanesKept', WHERE WHAT IT READS IS OF BULK AT MOST 1048576: true; the input reads as it did. -/
def lanesKeptUptoRow : OpenClaim := { program := "ytenfikfgliljmaa", sum := "3596e3b1e7185e2e94461746399556dffb637331632d40a30d00e7c1f306a2f8", func := "bulkhead/bulkheadlaw9.LanesKept", spec := "lanesKept", unfollowed := true, recurses := true, apart := false, narrowed := true }
def LanesKeptUptoSaid : Prop := lanesKeptUptoRow.holds Try.pinned (OpenSpec.upto lanesKeptSpec)

end Rows
end Go.Proofs.Ytenfikfgliljmaa
