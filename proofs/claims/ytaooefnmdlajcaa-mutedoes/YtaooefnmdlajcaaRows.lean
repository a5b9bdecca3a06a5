/-
  No cell of these rows narrows 'for every input' (looked for: loops, veiled, ifaces, maps, wideKeys, modest, calm, conditions, laid).
  DERIVED. THE GIVEN ROWS OF THIS SEAT. 8 by the template 'for every input the law returns true; each argument reads behind the call as it read before'; 0 by the template 'total and deterministic' (their statements: YtaooefnmdlajcaaTotals.lean).
  GIVEN WITH THE SEED: the statements are not yours to turn. If you find one false, say at which input.
  Laid BY PROGRAM, IN A SANDBOX (cutbox-rows.mjs): the forced cells as the released guide's own fill.sh prints them over the translation 6441c2c5632e83da… (all of the seat's roots in one cut). By AI agents, Wed Nov 11 2026. No macro, syntax, notation, axiom, sorry.
-/
import Derived.Test.YtaooefnmdlajcaaChecked
import GoSem.Claim
import GoSem.ClaimJoined
import GoSem.ClaimMapViews
import Derived.JoinedTies
import Derived.KernelRfl
namespace Go.Proofs.Ytaooefnmdlajcaa
/- THE CELL 'sum', in the pinned program and in every row, IS THE sha256 OF THE DUMP (.gsa) THAT YtaooefnmdlajcaaProg.lean LOADS. Nothing in Lean hashes anything: it is a label: what it is worth is what the hold of that sum in a sandbox is worth. -/
noncomputable def Try.pinned : Pinned := { name := "ytaooefnmdlajcaa", sum := "6441c2c5632e83da0be1d0895b9b51fbce134c00a8b214cf0b3c503c3ce2b9e8", checked := Try.checked }
namespace Rows
def none {H : Type} : Left H := { results := [], args := [] }

/-- 'watchmanlaw10.MuteDoes': WHATEVER THE INPUT: true; the input reads as it did. -/
def muteDoesSpec : ChangeSpec := { name := "muteDoes", fn := fun _ => fun
  | [d1, d2, d3, d4] => { results := [.lit (.bool true)], args := [d1, d2, d3, d4] }
  | _ => none }
def muteDoesRow : OpenClaim := { program := "ytaooefnmdlajcaa", sum := "6441c2c5632e83da0be1d0895b9b51fbce134c00a8b214cf0b3c503c3ce2b9e8", func := "watchman/watchmanlaw10.MuteDoes", spec := "muteDoes", unfollowed := true, recurses := true, apart := false }
def MuteDoesSaid : Prop := muteDoesRow.holds Try.pinned (OpenSpec.ofChange muteDoesSpec)

/-- ITS FALSE NEIGHBOUR: 'it returns false'. Refute it at one input. -/
def muteDoesWrong : ChangeSpec := { name := "muteDoes", fn := fun _ => fun
  | [d1, d2, d3, d4] => { results := [.lit (.bool false)], args := [d1, d2, d3, d4] }
  | _ => none }
def MuteDoesWrongFalsely : Prop := muteDoesRow.holds Try.pinned (OpenSpec.ofChange muteDoesWrong)

/-- 'watchmanlaw10.MuteTimes': WHATEVER THE INPUT: true; the input reads as it did. -/
def muteTimesSpec : ChangeSpec := { name := "muteTimes", fn := fun _ => fun
  | [d1, d2, d3, d4] => { results := [.lit (.bool true)], args := [d1, d2, d3, d4] }
  | _ => none }
def muteTimesRow : OpenClaim := { program := "ytaooefnmdlajcaa", sum := "6441c2c5632e83da0be1d0895b9b51fbce134c00a8b214cf0b3c503c3ce2b9e8", func := "watchman/watchmanlaw10.MuteTimes", spec := "muteTimes", unfollowed := true, recurses := true, apart := false }
def MuteTimesSaid : Prop := muteTimesRow.holds Try.pinned (OpenSpec.ofChange muteTimesSpec)

/-- ITS FALSE NEIGHBOUR: 'it returns false'. Refute it at one input. -/
def muteTimesWrong : ChangeSpec := { name := "muteTimes", fn := fun _ => fun
  | [d1, d2, d3, d4] => { results := [.lit (.bool false)], args := [d1, d2, d3, d4] }
  | _ => none }
def MuteTimesWrongFalsely : Prop := muteTimesRow.holds Try.pinned (OpenSpec.ofChange muteTimesWrong)

/-- 'watchmanlaw10.MuteOrder': WHATEVER THE INPUT: true; the input reads as it did. -/
def muteOrderSpec : ChangeSpec := { name := "muteOrder", fn := fun _ => fun
  | [d1, d2] => { results := [.lit (.bool true)], args := [d1, d2] }
  | _ => none }
def muteOrderRow : OpenClaim := { program := "ytaooefnmdlajcaa", sum := "6441c2c5632e83da0be1d0895b9b51fbce134c00a8b214cf0b3c503c3ce2b9e8", func := "watchman/watchmanlaw10.MuteOrder", spec := "muteOrder", unfollowed := true, recurses := true, apart := false }
def MuteOrderSaid : Prop := muteOrderRow.holds Try.pinned (OpenSpec.ofChange muteOrderSpec)

/-- ITS FALSE NEIGHBOUR: 'it returns false'. Refute it at one input. -/
def muteOrderWrong : ChangeSpec := { name := "muteOrder", fn := fun _ => fun
  | [d1, d2] => { results := [.lit (.bool false)], args := [d1, d2] }
  | _ => none }
def MuteOrderWrongFalsely : Prop := muteOrderRow.holds Try.pinned (OpenSpec.ofChange muteOrderWrong)

/-- 'watchmanlaw10.MuteTotal': WHATEVER THE INPUT: true; the input reads as it did. -/
def muteTotalSpec : ChangeSpec := { name := "muteTotal", fn := fun _ => fun
  | [d1, d2, d3] => { results := [.lit (.bool true)], args := [d1, d2, d3] }
  | _ => none }
def muteTotalRow : OpenClaim := { program := "ytaooefnmdlajcaa", sum := "6441c2c5632e83da0be1d0895b9b51fbce134c00a8b214cf0b3c503c3ce2b9e8", func := "watchman/watchmanlaw10.MuteTotal", spec := "muteTotal", unfollowed := true, recurses := true, apart := false }
def MuteTotalSaid : Prop := muteTotalRow.holds Try.pinned (OpenSpec.ofChange muteTotalSpec)

/-- ITS FALSE NEIGHBOUR: 'it returns false'. Refute it at one input. -/
def muteTotalWrong : ChangeSpec := { name := "muteTotal", fn := fun _ => fun
  | [d1, d2, d3] => { results := [.lit (.bool false)], args := [d1, d2, d3] }
  | _ => none }
def MuteTotalWrongFalsely : Prop := muteTotalRow.holds Try.pinned (OpenSpec.ofChange muteTotalWrong)

/-- 'watchmanlaw24.NodeOld': WHATEVER THE INPUT: true; the input reads as it did. -/
def nodeOldSpec : ChangeSpec := { name := "nodeOld", fn := fun _ => fun
  | [d1, d2] => { results := [.lit (.bool true)], args := [d1, d2] }
  | _ => none }
def nodeOldRow : OpenClaim := { program := "ytaooefnmdlajcaa", sum := "6441c2c5632e83da0be1d0895b9b51fbce134c00a8b214cf0b3c503c3ce2b9e8", func := "watchman/watchmanlaw24.NodeOld", spec := "nodeOld", unfollowed := true, recurses := true, apart := false }
def NodeOldSaid : Prop := nodeOldRow.holds Try.pinned (OpenSpec.ofChange nodeOldSpec)

/-- ITS FALSE NEIGHBOUR: 'it returns false'. Refute it at one input. -/
def nodeOldWrong : ChangeSpec := { name := "nodeOld", fn := fun _ => fun
  | [d1, d2] => { results := [.lit (.bool false)], args := [d1, d2] }
  | _ => none }
def NodeOldWrongFalsely : Prop := nodeOldRow.holds Try.pinned (OpenSpec.ofChange nodeOldWrong)

/-- 'watchmanlaw24.NodeAgain': WHATEVER THE INPUT: true; the input reads as it did. -/
def nodeAgainSpec : ChangeSpec := { name := "nodeAgain", fn := fun _ => fun
  | [d1, d2] => { results := [.lit (.bool true)], args := [d1, d2] }
  | _ => none }
def nodeAgainRow : OpenClaim := { program := "ytaooefnmdlajcaa", sum := "6441c2c5632e83da0be1d0895b9b51fbce134c00a8b214cf0b3c503c3ce2b9e8", func := "watchman/watchmanlaw24.NodeAgain", spec := "nodeAgain", unfollowed := true, recurses := true, apart := false }
def NodeAgainSaid : Prop := nodeAgainRow.holds Try.pinned (OpenSpec.ofChange nodeAgainSpec)

/-- ITS FALSE NEIGHBOUR: 'it returns false'. Refute it at one input. -/
def nodeAgainWrong : ChangeSpec := { name := "nodeAgain", fn := fun _ => fun
  | [d1, d2] => { results := [.lit (.bool false)], args := [d1, d2] }
  | _ => none }
def NodeAgainWrongFalsely : Prop := nodeAgainRow.holds Try.pinned (OpenSpec.ofChange nodeAgainWrong)

/-- 'watchmanlaw24.NodeAlone': WHATEVER THE INPUT: true; the input reads as it did. -/
def nodeAloneSpec : ChangeSpec := { name := "nodeAlone", fn := fun _ => fun
  | [d1, d2] => { results := [.lit (.bool true)], args := [d1, d2] }
  | _ => none }
def nodeAloneRow : OpenClaim := { program := "ytaooefnmdlajcaa", sum := "6441c2c5632e83da0be1d0895b9b51fbce134c00a8b214cf0b3c503c3ce2b9e8", func := "watchman/watchmanlaw24.NodeAlone", spec := "nodeAlone", unfollowed := true, recurses := true, apart := false }
def NodeAloneSaid : Prop := nodeAloneRow.holds Try.pinned (OpenSpec.ofChange nodeAloneSpec)

/-- ITS FALSE NEIGHBOUR: 'it returns false'. Refute it at one input. -/
def nodeAloneWrong : ChangeSpec := { name := "nodeAlone", fn := fun _ => fun
  | [d1, d2] => { results := [.lit (.bool false)], args := [d1, d2] }
  | _ => none }
def NodeAloneWrongFalsely : Prop := nodeAloneRow.holds Try.pinned (OpenSpec.ofChange nodeAloneWrong)

/-- 'watchmanlaw24.NodeRight': WHATEVER THE INPUT: true; the input reads as it did. -/
def nodeRightSpec : ChangeSpec := { name := "nodeRight", fn := fun _ => fun
  | [d1, d2, d3] => { results := [.lit (.bool true)], args := [d1, d2, d3] }
  | _ => none }
def nodeRightRow : OpenClaim := { program := "ytaooefnmdlajcaa", sum := "6441c2c5632e83da0be1d0895b9b51fbce134c00a8b214cf0b3c503c3ce2b9e8", func := "watchman/watchmanlaw24.NodeRight", spec := "nodeRight", unfollowed := true, recurses := true, apart := false }
def NodeRightSaid : Prop := nodeRightRow.holds Try.pinned (OpenSpec.ofChange nodeRightSpec)

/-- ITS FALSE NEIGHBOUR: 'it returns false'. Refute it at one input. -/
def nodeRightWrong : ChangeSpec := { name := "nodeRight", fn := fun _ => fun
  | [d1, d2, d3] => { results := [.lit (.bool false)], args := [d1, d2, d3] }
  | _ => none }
def NodeRightWrongFalsely : Prop := nodeRightRow.holds Try.pinned (OpenSpec.ofChange nodeRightWrong)

/- THE SECOND FORM. 'bulk': how many values and letters a reading holds, each counted each time it is reached (what is shared counts as often as it is met; a slice's spare places count too). A statement '..UptoSaid' is the law's where the arguments, and the package variables that the reading takes, are together of bulk at most 1048576: NARROWER than '..Said'. Prove '..Said' where nothing that the law and all that it calls make is longer than what came in: it says more and counts as full. Else prove '..UptoSaid'. A law counts once. -/
mutual
def uptoBulk {H : Type} : DataW H → Nat
  | .lit (.string bytes) => bytes.length + 1
  | .lit _ => 1
  | .nil => 1
  | .ptr d => uptoBulk d + 1
  | .slice elems spare => uptoBulkAll elems + uptoBulkAll spare + 1
  | .agg parts => uptoBulkAll parts + 1
  | .iface _ d => uptoBulk d + 1
  | .map entries => uptoBulkEntries entries + 1
  | .held _ => 1
def uptoBulkAll {H : Type} : List (DataW H) → Nat
  | [] => 0
  | d :: r => uptoBulk d + uptoBulkAll r
def uptoBulkEntries {H : Type} : List (Lit × DataW H) → Nat
  | [] => 0
  | x :: r => uptoBulkEntry x + uptoBulkEntries r
def uptoBulkEntry {H : Type} : Lit × DataW H → Nat
  | (.string bytes, d) => bytes.length + uptoBulk d + 1
  | (_, d) => uptoBulk d + 1
 end
def uptoSmall : (H : Type) → List (DataW H) → Bool := fun _ ds => decide (uptoBulkAll ds ≤ 1048576)
def OpenSpec.upto (s : _root_.Go.ChangeSpec) : _root_.Go.OpenSpec := { _root_.Go.OpenSpec.ofChange s with cond := some uptoSmall }

/-- 'watchmanlaw10.MuteDoes', WHERE WHAT IT READS IS OF BULK AT MOST 1048576: true; the input reads as it did. -/
def muteDoesUptoRow : OpenClaim := { program := "ytaooefnmdlajcaa", sum := "6441c2c5632e83da0be1d0895b9b51fbce134c00a8b214cf0b3c503c3ce2b9e8", func := "watchman/watchmanlaw10.MuteDoes", spec := "muteDoes", unfollowed := true, recurses := true, apart := false, narrowed := true }
def MuteDoesUptoSaid : Prop := muteDoesUptoRow.holds Try.pinned (OpenSpec.upto muteDoesSpec)

/-- 'watchmanlaw10.MuteTimes', WHERE WHAT IT READS IS OF BULK AT MOST 1048576: true; the input reads as it did. -/
def muteTimesUptoRow : OpenClaim := { program := "ytaooefnmdlajcaa", sum := "6441c2c5632e83da0be1d0895b9b51fbce134c00a8b214cf0b3c503c3ce2b9e8", func := "watchman/watchmanlaw10.MuteTimes", spec := "muteTimes", unfollowed := true, recurses := true, apart := false, narrowed := true }
def MuteTimesUptoSaid : Prop := muteTimesUptoRow.holds Try.pinned (OpenSpec.upto muteTimesSpec)

/-- 'watchmanlaw10.MuteOrder', WHERE WHAT IT READS IS OF BULK AT MOST 1048576: true; the input reads as it did. -/
def muteOrderUptoRow : OpenClaim := { program := "ytaooefnmdlajcaa", sum := "6441c2c5632e83da0be1d0895b9b51fbce134c00a8b214cf0b3c503c3ce2b9e8", func := "watchman/watchmanlaw10.MuteOrder", spec := "muteOrder", unfollowed := true, recurses := true, apart := false, narrowed := true }
def MuteOrderUptoSaid : Prop := muteOrderUptoRow.holds Try.pinned (OpenSpec.upto muteOrderSpec)

/-- 'watchmanlaw10.MuteTotal', WHERE WHAT IT READS IS OF BULK AT MOST 1048576: true; the input reads as it did. -/
def muteTotalUptoRow : OpenClaim := { program := "ytaooefnmdlajcaa", sum := "6441c2c5632e83da0be1d0895b9b51fbce134c00a8b214cf0b3c503c3ce2b9e8", func := "watchman/watchmanlaw10.MuteTotal", spec := "muteTotal", unfollowed := true, recurses := true, apart := false, narrowed := true }
def MuteTotalUptoSaid : Prop := muteTotalUptoRow.holds Try.pinned (OpenSpec.upto muteTotalSpec)

/-- 'watchmanlaw24.NodeOld', WHERE WHAT IT READS IS OF BULK AT MOST 1048576: true; the input reads as it did. -/
def nodeOldUptoRow : OpenClaim := { program := "ytaooefnmdlajcaa", sum := "6441c2c5632e83da0be1d0895b9b51fbce134c00a8b214cf0b3c503c3ce2b9e8", func := "watchman/watchmanlaw24.NodeOld", spec := "nodeOld", unfollowed := true, recurses := true, apart := false, narrowed := true }
def NodeOldUptoSaid : Prop := nodeOldUptoRow.holds Try.pinned (OpenSpec.upto nodeOldSpec)

/-- 'watchmanlaw24.NodeAgain', WHERE WHAT IT READS IS OF BULK AT MOST 1048576: true; the input reads as it did. -/
def nodeAgainUptoRow : OpenClaim := { program := "ytaooefnmdlajcaa", sum := "6441c2c5632e83da0be1d0895b9b51fbce134c00a8b214cf0b3c503c3ce2b9e8", func := "watchman/watchmanlaw24.NodeAgain", spec := "nodeAgain", unfollowed := true, recurses := true, apart := false, narrowed := true }
def NodeAgainUptoSaid : Prop := nodeAgainUptoRow.holds Try.pinned (OpenSpec.upto nodeAgainSpec)

/-- 'watchmanlaw24.NodeAlone', WHERE WHAT IT READS IS OF BULK AT MOST 1048576: true; the input reads as it did. -/
def nodeAloneUptoRow : OpenClaim := { program := "ytaooefnmdlajcaa", sum := "6441c2c5632e83da0be1d0895b9b51fbce134c00a8b214cf0b3c503c3ce2b9e8", func := "watchman/watchmanlaw24.NodeAlone", spec := "nodeAlone", unfollowed := true, recurses := true, apart := false, narrowed := true }
def NodeAloneUptoSaid : Prop := nodeAloneUptoRow.holds Try.pinned (OpenSpec.upto nodeAloneSpec)

/-- 'watchmanlaw24.NodeRight', WHERE WHAT IT READS IS OF BULK AT MOST 1048576: true; the input reads as it did. -/
def nodeRightUptoRow : OpenClaim := { program := "ytaooefnmdlajcaa", sum := "6441c2c5632e83da0be1d0895b9b51fbce134c00a8b214cf0b3c503c3ce2b9e8", func := "watchman/watchmanlaw24.NodeRight", spec := "nodeRight", unfollowed := true, recurses := true, apart := false, narrowed := true }
def NodeRightUptoSaid : Prop := nodeRightUptoRow.holds Try.pinned (OpenSpec.upto nodeRightSpec)

end Rows
end Go.Proofs.Ytaooefnmdlajcaa
