/-
  No cell of these rows narrows 'for every input' (looked for: loops, veiled, ifaces, maps, wideKeys, modest, calm, conditions, laid).
  DERIVED. THE GIVEN ROWS OF THIS SEAT. 10 by the template 'for every input the law returns true; each argument reads behind the call as it read before'; 0 by the template 'total and deterministic' (their statements: YtopeokonlaljlaaTotals.lean).
  GIVEN WITH THE SEED: the statements are not yours to turn. If you find one false, say at which input.
  Laid BY PROGRAM, IN A SANDBOX (cutbox-rows.mjs): the forced cells as the released guide's own fill.sh prints them over the translation 2eb4d6da1e6974a5… (all of the seat's roots in one cut). By AI agents, Wed Nov 11 2026. No macro, syntax, notation, axiom, sorry.
-/
import Derived.Test.YtopeokonlaljlaaChecked
import GoSem.Claim
import GoSem.ClaimJoined
import GoSem.ClaimMapViews
import Derived.JoinedTies
import Derived.KernelRfl
namespace Go.Proofs.Ytopeokonlaljlaa
/- THE CELL 'sum', in the pinned program and in every row, IS THE sha256 OF THE DUMP (.gsa) THAT YtopeokonlaljlaaProg.lean LOADS. Nothing in Lean hashes anything: it is a label: what it is worth is what the hold of that sum in a sandbox is worth. -/
noncomputable def Try.pinned : Pinned := { name := "ytopeokonlaljlaa", sum := "2eb4d6da1e6974a51c2018d1cf5bb910e5a1fc8bbef56a7829e6cd19f50a7642", checked := Try.checked }
namespace Rows
def none {H : Type} : Left H := { results := [], args := [] }

/-- 'watchmanlaw26.CallerDoes': WHATEVER THE INPUT: true; the input reads as it did. -/
def callerDoesSpec : ChangeSpec := { name := "callerDoes", fn := fun _ => fun
  | [d1, d2, d3, d4, d5] => { results := [.lit (.bool true)], args := [d1, d2, d3, d4, d5] }
  | _ => none }
def callerDoesRow : OpenClaim := { program := "ytopeokonlaljlaa", sum := "2eb4d6da1e6974a51c2018d1cf5bb910e5a1fc8bbef56a7829e6cd19f50a7642", func := "watchman/watchmanlaw26.CallerDoes", spec := "callerDoes", unfollowed := true, recurses := true, apart := false }
def CallerDoesSaid : Prop := callerDoesRow.holds Try.pinned (OpenSpec.ofChange callerDoesSpec)

/-- ITS FALSE NEIGHBOUR: 'it returns false'. Refute it at one input. -/
def callerDoesWrong : ChangeSpec := { name := "callerDoes", fn := fun _ => fun
  | [d1, d2, d3, d4, d5] => { results := [.lit (.bool false)], args := [d1, d2, d3, d4, d5] }
  | _ => none }
def CallerDoesWrongFalsely : Prop := callerDoesRow.holds Try.pinned (OpenSpec.ofChange callerDoesWrong)

/-- 'watchmanlaw26.CallerRight': WHATEVER THE INPUT: true; the input reads as it did. -/
def callerRightSpec : ChangeSpec := { name := "callerRight", fn := fun _ => fun
  | [d1, d2, d3, d4] => { results := [.lit (.bool true)], args := [d1, d2, d3, d4] }
  | _ => none }
def callerRightRow : OpenClaim := { program := "ytopeokonlaljlaa", sum := "2eb4d6da1e6974a51c2018d1cf5bb910e5a1fc8bbef56a7829e6cd19f50a7642", func := "watchman/watchmanlaw26.CallerRight", spec := "callerRight", unfollowed := true, recurses := true, apart := false }
def CallerRightSaid : Prop := callerRightRow.holds Try.pinned (OpenSpec.ofChange callerRightSpec)

/-- ITS FALSE NEIGHBOUR: 'it returns false'. Refute it at one input. -/
def callerRightWrong : ChangeSpec := { name := "callerRight", fn := fun _ => fun
  | [d1, d2, d3, d4] => { results := [.lit (.bool false)], args := [d1, d2, d3, d4] }
  | _ => none }
def CallerRightWrongFalsely : Prop := callerRightRow.holds Try.pinned (OpenSpec.ofChange callerRightWrong)

/-- 'watchmanlaw26.CallerRound': WHATEVER THE INPUT: true; the input reads as it did. -/
def callerRoundSpec : ChangeSpec := { name := "callerRound", fn := fun _ => fun
  | [d] => { results := [.lit (.bool true)], args := [d] }
  | _ => none }
def callerRoundRow : OpenClaim := { program := "ytopeokonlaljlaa", sum := "2eb4d6da1e6974a51c2018d1cf5bb910e5a1fc8bbef56a7829e6cd19f50a7642", func := "watchman/watchmanlaw26.CallerRound", spec := "callerRound", unfollowed := true, recurses := true, apart := false }
def CallerRoundSaid : Prop := callerRoundRow.holds Try.pinned (OpenSpec.ofChange callerRoundSpec)

/-- ITS FALSE NEIGHBOUR: 'it returns false'. Refute it at one input. -/
def callerRoundWrong : ChangeSpec := { name := "callerRound", fn := fun _ => fun
  | [d] => { results := [.lit (.bool false)], args := [d] }
  | _ => none }
def CallerRoundWrongFalsely : Prop := callerRoundRow.holds Try.pinned (OpenSpec.ofChange callerRoundWrong)

/-- 'watchmanlaw26.CallerRuns': WHATEVER THE INPUT: true; the input reads as it did. -/
def callerRunsSpec : ChangeSpec := { name := "callerRuns", fn := fun _ => fun
  | [d1, d2, d3] => { results := [.lit (.bool true)], args := [d1, d2, d3] }
  | _ => none }
def callerRunsRow : OpenClaim := { program := "ytopeokonlaljlaa", sum := "2eb4d6da1e6974a51c2018d1cf5bb910e5a1fc8bbef56a7829e6cd19f50a7642", func := "watchman/watchmanlaw26.CallerRuns", spec := "callerRuns", unfollowed := true, recurses := true, apart := false }
def CallerRunsSaid : Prop := callerRunsRow.holds Try.pinned (OpenSpec.ofChange callerRunsSpec)

/-- ITS FALSE NEIGHBOUR: 'it returns false'. Refute it at one input. -/
def callerRunsWrong : ChangeSpec := { name := "callerRuns", fn := fun _ => fun
  | [d1, d2, d3] => { results := [.lit (.bool false)], args := [d1, d2, d3] }
  | _ => none }
def CallerRunsWrongFalsely : Prop := callerRunsRow.holds Try.pinned (OpenSpec.ofChange callerRunsWrong)

/-- 'watchmanlaw26.CallerFree': WHATEVER THE INPUT: true; the input reads as it did. -/
def callerFreeSpec : ChangeSpec := { name := "callerFree", fn := fun _ => fun
  | [d1, d2, d3] => { results := [.lit (.bool true)], args := [d1, d2, d3] }
  | _ => none }
def callerFreeRow : OpenClaim := { program := "ytopeokonlaljlaa", sum := "2eb4d6da1e6974a51c2018d1cf5bb910e5a1fc8bbef56a7829e6cd19f50a7642", func := "watchman/watchmanlaw26.CallerFree", spec := "callerFree", unfollowed := true, recurses := true, apart := false }
def CallerFreeSaid : Prop := callerFreeRow.holds Try.pinned (OpenSpec.ofChange callerFreeSpec)

/-- ITS FALSE NEIGHBOUR: 'it returns false'. Refute it at one input. -/
def callerFreeWrong : ChangeSpec := { name := "callerFree", fn := fun _ => fun
  | [d1, d2, d3] => { results := [.lit (.bool false)], args := [d1, d2, d3] }
  | _ => none }
def CallerFreeWrongFalsely : Prop := callerFreeRow.holds Try.pinned (OpenSpec.ofChange callerFreeWrong)

/-- 'watchmanlaw05.LifeDoes': WHATEVER THE INPUT: true; the input reads as it did. -/
def lifeDoesSpec : ChangeSpec := { name := "lifeDoes", fn := fun _ => fun
  | [d1, d2, d3, d4] => { results := [.lit (.bool true)], args := [d1, d2, d3, d4] }
  | _ => none }
def lifeDoesRow : OpenClaim := { program := "ytopeokonlaljlaa", sum := "2eb4d6da1e6974a51c2018d1cf5bb910e5a1fc8bbef56a7829e6cd19f50a7642", func := "watchman/watchmanlaw05.LifeDoes", spec := "lifeDoes", recurses := true, apart := false }
def LifeDoesSaid : Prop := lifeDoesRow.holds Try.pinned (OpenSpec.ofChange lifeDoesSpec)

/-- ITS FALSE NEIGHBOUR: 'it returns false'. Refute it at one input. -/
def lifeDoesWrong : ChangeSpec := { name := "lifeDoes", fn := fun _ => fun
  | [d1, d2, d3, d4] => { results := [.lit (.bool false)], args := [d1, d2, d3, d4] }
  | _ => none }
def LifeDoesWrongFalsely : Prop := lifeDoesRow.holds Try.pinned (OpenSpec.ofChange lifeDoesWrong)

/-- 'watchmanlaw05.LifeParts': WHATEVER THE INPUT: true; the input reads as it did. -/
def lifePartsSpec : ChangeSpec := { name := "lifeParts", fn := fun _ => fun
  | [d1, d2, d3] => { results := [.lit (.bool true)], args := [d1, d2, d3] }
  | _ => none }
def lifePartsRow : OpenClaim := { program := "ytopeokonlaljlaa", sum := "2eb4d6da1e6974a51c2018d1cf5bb910e5a1fc8bbef56a7829e6cd19f50a7642", func := "watchman/watchmanlaw05.LifeParts", spec := "lifeParts", recurses := true, apart := false }
def LifePartsSaid : Prop := lifePartsRow.holds Try.pinned (OpenSpec.ofChange lifePartsSpec)

/-- ITS FALSE NEIGHBOUR: 'it returns false'. Refute it at one input. -/
def lifePartsWrong : ChangeSpec := { name := "lifeParts", fn := fun _ => fun
  | [d1, d2, d3] => { results := [.lit (.bool false)], args := [d1, d2, d3] }
  | _ => none }
def LifePartsWrongFalsely : Prop := lifePartsRow.holds Try.pinned (OpenSpec.ofChange lifePartsWrong)

/-- 'watchmanlaw05.LifeWays': WHATEVER THE INPUT: true; the input reads as it did. -/
def lifeWaysSpec : ChangeSpec := { name := "lifeWays", fn := fun _ => fun
  | [d1, d2, d3, d4] => { results := [.lit (.bool true)], args := [d1, d2, d3, d4] }
  | _ => none }
def lifeWaysRow : OpenClaim := { program := "ytopeokonlaljlaa", sum := "2eb4d6da1e6974a51c2018d1cf5bb910e5a1fc8bbef56a7829e6cd19f50a7642", func := "watchman/watchmanlaw05.LifeWays", spec := "lifeWays", recurses := true, apart := false }
def LifeWaysSaid : Prop := lifeWaysRow.holds Try.pinned (OpenSpec.ofChange lifeWaysSpec)

/-- ITS FALSE NEIGHBOUR: 'it returns false'. Refute it at one input. -/
def lifeWaysWrong : ChangeSpec := { name := "lifeWays", fn := fun _ => fun
  | [d1, d2, d3, d4] => { results := [.lit (.bool false)], args := [d1, d2, d3, d4] }
  | _ => none }
def LifeWaysWrongFalsely : Prop := lifeWaysRow.holds Try.pinned (OpenSpec.ofChange lifeWaysWrong)

/-- 'watchmanlaw05.LifeClears': WHATEVER THE INPUT: true; the input reads as it did. -/
def lifeClearsSpec : ChangeSpec := { name := "lifeClears", fn := fun _ => fun
  | [d1, d2] => { results := [.lit (.bool true)], args := [d1, d2] }
  | _ => none }
def lifeClearsRow : OpenClaim := { program := "ytopeokonlaljlaa", sum := "2eb4d6da1e6974a51c2018d1cf5bb910e5a1fc8bbef56a7829e6cd19f50a7642", func := "watchman/watchmanlaw05.LifeClears", spec := "lifeClears", recurses := true, apart := false }
def LifeClearsSaid : Prop := lifeClearsRow.holds Try.pinned (OpenSpec.ofChange lifeClearsSpec)

/-- ITS FALSE NEIGHBOUR: 'it returns false'. Refute it at one input. -/
def lifeClearsWrong : ChangeSpec := { name := "lifeClears", fn := fun _ => fun
  | [d1, d2] => { results := [.lit (.bool false)], args := [d1, d2] }
  | _ => none }
def LifeClearsWrongFalsely : Prop := lifeClearsRow.holds Try.pinned (OpenSpec.ofChange lifeClearsWrong)

/-- 'watchmanlaw05.LifeCalm': WHATEVER THE INPUT: true; the input reads as it did. -/
def lifeCalmSpec : ChangeSpec := { name := "lifeCalm", fn := fun _ => fun
  | [d1, d2] => { results := [.lit (.bool true)], args := [d1, d2] }
  | _ => none }
def lifeCalmRow : OpenClaim := { program := "ytopeokonlaljlaa", sum := "2eb4d6da1e6974a51c2018d1cf5bb910e5a1fc8bbef56a7829e6cd19f50a7642", func := "watchman/watchmanlaw05.LifeCalm", spec := "lifeCalm", recurses := true, apart := false }
def LifeCalmSaid : Prop := lifeCalmRow.holds Try.pinned (OpenSpec.ofChange lifeCalmSpec)

/-- ITS FALSE NEIGHBOUR: 'it returns false'. Refute it at one input. -/
def lifeCalmWrong : ChangeSpec := { name := "lifeCalm", fn := fun _ => fun
  | [d1, d2] => { results := [.lit (.bool false)], args := [d1, d2] }
  | _ => none }
def LifeCalmWrongFalsely : Prop := lifeCalmRow.holds Try.pinned (OpenSpec.ofChange lifeCalmWrong)

/- THE SECOND FORM. 'bulk': how many values and letters a reading holds, each counted each time it is reached (what is shared counts as often as it is met; a slice's spare places count too). A statement '..UptoSaid' is the law's where the arguments, and the package variables that the reading takes, are together of bulk at most 1048576: NARROWER than '..Said'. Prove '..Said' where nothing that the law and all that it calls make is longer than what came in: it says more and counts as full. Else prove '..UptoSaid'. A law counts once. -/
mutual
def uptoBulk {H : Type} : DataW H → Nat
  | .lit (.string bytes) => bytes.length + 1
  | .lit _ => 1
  | .nil => 1
  | .ptr d => uptoBulk d + 1
  | .slice elems spare => uptoBulkAll elems + uptoBulkAll spare + 1
  | .agg parts => uptoBulkAll parts + 1
  | .iface _ d => uptoBulk d + 1
  | .map entries => uptoBulkEntries entries + 1
  | .held _ => 1
def uptoBulkAll {H : Type} : List (DataW H) → Nat
  | [] => 0
  | d :: r => uptoBulk d + uptoBulkAll r
def uptoBulkEntries {H : Type} : List (Lit × DataW H) → Nat
  | [] => 0
  | x :: r => uptoBulkEntry x + uptoBulkEntries r
def uptoBulkEntry {H : Type} : Lit × DataW H → Nat
  | (.string bytes, d) => bytes.length + uptoBulk d + 1
  | (_, d) => uptoBulk d + 1
 end
def uptoSmall : (H : Type) → List (DataW H) → Bool := fun _ ds => decide (uptoBulkAll ds ≤ 1048576)
def OpenSpec.upto (s : _root_.Go.ChangeSpec) : _root_.Go.OpenSpec := { _root_.Go.OpenSpec.ofChange s with cond := some uptoSmall }

/-- 'watchmanlaw26.CallerDoes', WHERE WHAT IT READS IS OF BULK AT MOST 1048576: true; the input reads as it did. -/
def callerDoesUptoRow : OpenClaim := { program := "ytopeokonlaljlaa", sum := "2eb4d6da1e6974a51c2018d1cf5bb910e5a1fc8bbef56a7829e6cd19f50a7642", func := "watchman/watchmanlaw26.CallerDoes", spec := "callerDoes", unfollowed := true, recurses := true, apart := false, narrowed := true }
def CallerDoesUptoSaid : Prop := callerDoesUptoRow.holds Try.pinned (OpenSpec.upto callerDoesSpec)

/-- 'watchmanlaw26.CallerRight', WHERE WHAT IT READS IS OF BULK AT MOST 1048576: true; the input reads as it did. -/
def callerRightUptoRow : OpenClaim := { program := "ytopeokonlaljlaa", sum := "2eb4d6da1e6974a51c2018d1cf5bb910e5a1fc8bbef56a7829e6cd19f50a7642", func := "watchman/watchmanlaw26.CallerRight", spec := "callerRight", unfollowed := true, recurses := true, apart := false, narrowed := true }
def CallerRightUptoSaid : Prop := callerRightUptoRow.holds Try.pinned (OpenSpec.upto callerRightSpec)

/-- 'watchmanlaw26.CallerRound', WHERE WHAT IT READS IS OF BULK AT MOST 1048576: true; the input reads as it did. -/
def callerRoundUptoRow : OpenClaim := { program := "ytopeokonlaljlaa", sum := "2eb4d6da1e6974a51c2018d1cf5bb910e5a1fc8bbef56a7829e6cd19f50a7642", func := "watchman/watchmanlaw26.CallerRound", spec := "callerRound", unfollowed := true, recurses := true, apart := false, narrowed := true }
def CallerRoundUptoSaid : Prop := callerRoundUptoRow.holds Try.pinned (OpenSpec.upto callerRoundSpec)

/-- 'watchmanlaw26.CallerRuns', WHERE WHAT IT READS IS OF BULK AT MOST 1048576: true; the input reads as it did. -/
def callerRunsUptoRow : OpenClaim := { program := "ytopeokonlaljlaa", sum := "2eb4d6da1e6974a51c2018d1cf5bb910e5a1fc8bbef56a7829e6cd19f50a7642", func := "watchman/watchmanlaw26.CallerRuns", spec := "callerRuns", unfollowed := true, recurses := true, apart := false, narrowed := true }
def CallerRunsUptoSaid : Prop := callerRunsUptoRow.holds Try.pinned (OpenSpec.upto callerRunsSpec)

/-- 'watchmanlaw26.CallerFree', WHERE WHAT IT READS IS OF BULK AT MOST 1048576: true; the input reads as it did. -/
def callerFreeUptoRow : OpenClaim := { program := "ytopeokonlaljlaa", sum := "2eb4d6da1e6974a51c2018d1cf5bb910e5a1fc8bbef56a7829e6cd19f50a7642", func := "watchman/watchmanlaw26.CallerFree", spec := "callerFree", unfollowed := true, recurses := true, apart := false, narrowed := true }
def CallerFreeUptoSaid : Prop := callerFreeUptoRow.holds Try.pinned (OpenSpec.upto callerFreeSpec)

/-- 'watchmanlaw05.LifeDoes', WHERE WHAT IT READS IS OF BULK AT MOST 1048576: true; the input reads as it did. -/
def lifeDoesUptoRow : OpenClaim := { program := "ytopeokonlaljlaa", sum := "2eb4d6da1e6974a51c2018d1cf5bb910e5a1fc8bbef56a7829e6cd19f50a7642", func := "watchman/watchmanlaw05.LifeDoes", spec := "lifeDoes", recurses := true, apart := false, narrowed := true }
def LifeDoesUptoSaid : Prop := lifeDoesUptoRow.holds Try.pinned (OpenSpec.upto lifeDoesSpec)

/-- 'watchmanlaw05.LifeParts', WHERE WHAT IT READS IS OF BULK AT MOST 1048576: true; the input reads as it did. -/
def lifePartsUptoRow : OpenClaim := { program := "ytopeokonlaljlaa", sum := "2eb4d6da1e6974a51c2018d1cf5bb910e5a1fc8bbef56a7829e6cd19f50a7642", func := "watchman/watchmanlaw05.LifeParts", spec := "lifeParts", recurses := true, apart := false, narrowed := true }
def LifePartsUptoSaid : Prop := lifePartsUptoRow.holds Try.pinned (OpenSpec.upto lifePartsSpec)

/-- 'watchmanlaw05.LifeWays', WHERE WHAT IT READS IS OF BULK AT MOST 1048576: true; the input reads as it did. -/
def lifeWaysUptoRow : OpenClaim := { program := "ytopeokonlaljlaa", sum := "2eb4d6da1e6974a51c2018d1cf5bb910e5a1fc8bbef56a7829e6cd19f50a7642", func := "watchman/watchmanlaw05.LifeWays", spec := "lifeWays", recurses := true, apart := false, narrowed := true }
def LifeWaysUptoSaid : Prop := lifeWaysUptoRow.holds Try.pinned (OpenSpec.upto lifeWaysSpec)

/-- 'watchmanlaw05.LifeClears', WHERE WHAT IT READS IS OF BULK AT MOST 1048576: true; the input reads as it did. -/
def lifeClearsUptoRow : OpenClaim := { program := "ytopeokonlaljlaa", sum := "2eb4d6da1e6974a51c2018d1cf5bb910e5a1fc8bbef56a7829e6cd19f50a7642", func := "watchman/watchmanlaw05.LifeClears", spec := "lifeClears", recurses := true, apart := false, narrowed := true }
def LifeClearsUptoSaid : Prop := lifeClearsUptoRow.holds Try.pinned (OpenSpec.upto lifeClearsSpec)

/-- 'watchmanlaw05.LifeCalm', WHERE WHAT IT READS IS OF BULK AT MOST 1048576: true; the input reads as it did. -/
def lifeCalmUptoRow : OpenClaim := { program := "ytopeokonlaljlaa", sum := "2eb4d6da1e6974a51c2018d1cf5bb910e5a1fc8bbef56a7829e6cd19f50a7642", func := "watchman/watchmanlaw05.LifeCalm", spec := "lifeCalm", recurses := true, apart := false, narrowed := true }
def LifeCalmUptoSaid : Prop := lifeCalmUptoRow.holds Try.pinned (OpenSpec.upto lifeCalmSpec)

end Rows
end Go.Proofs.Ytopeokonlaljlaa
