/-
  No cell of these rows narrows 'for every input' (looked for: loops, veiled, ifaces, maps, wideKeys, modest, calm, conditions, laid).
  DERIVED. THE GIVEN ROWS OF THIS SEAT. 5 by the template 'for every input the law returns true; each argument reads behind the call as it read before'; 0 by the template 'total and deterministic' (their statements: YtjjagjehaoidbaaTotals.lean).
  GIVEN WITH THE SEED: the statements are not yours to turn. If you find one false, say at which input.
  Laid BY PROGRAM, IN A SANDBOX (cutbox-rows.mjs): the forced cells as the released guide's own fill.sh prints them over the translation 702bee5661707cd4… (all of the seat's roots in one cut). By AI agents, Wed Nov 11 2026. No macro, syntax, notation, axiom, sorry.
-/
import Derived.Test.YtjjagjehaoidbaaChecked
import GoSem.Claim
import GoSem.ClaimJoined
import GoSem.ClaimMapViews
import Derived.JoinedTies
import Derived.KernelRfl
namespace Go.Proofs.Ytjjagjehaoidbaa
/- THE CELL 'sum', in the pinned program and in every row, IS THE sha256 OF THE DUMP (.gsa) THAT YtjjagjehaoidbaaProg.lean LOADS. Nothing in Lean hashes anything: it is a label: what it is worth is what the hold of that sum in a sandbox is worth. -/
noncomputable def Try.pinned : Pinned := { name := "ytjjagjehaoidbaa", sum := "702bee5661707cd4bae264e002a5278f9cfe7008c87575560a6bbf08faf519cb", checked := Try.checked }
namespace Rows
def none {H : Type} : Left H := { results := [], args := [] }

/-- 'watchmanlaw07.RankDoes': WHATEVER THE INPUT: true; the input reads as it did. -/
def rankDoesSpec : ChangeSpec := { name := "rankDoes", fn := fun _ => fun
  | [d1, d2, d3, d4] => { results := [.lit (.bool true)], args := [d1, d2, d3, d4] }
  | _ => none }
def rankDoesRow : OpenClaim := { program := "ytjjagjehaoidbaa", sum := "702bee5661707cd4bae264e002a5278f9cfe7008c87575560a6bbf08faf519cb", func := "watchman/watchmanlaw07.RankDoes", spec := "rankDoes", unfollowed := true, recurses := true, apart := false }
def RankDoesSaid : Prop := rankDoesRow.holds Try.pinned (OpenSpec.ofChange rankDoesSpec)

/-- ITS FALSE NEIGHBOUR: 'it returns false'. Refute it at one input. -/
def rankDoesWrong : ChangeSpec := { name := "rankDoes", fn := fun _ => fun
  | [d1, d2, d3, d4] => { results := [.lit (.bool false)], args := [d1, d2, d3, d4] }
  | _ => none }
def RankDoesWrongFalsely : Prop := rankDoesRow.holds Try.pinned (OpenSpec.ofChange rankDoesWrong)

/-- 'watchmanlaw07.RankOrder': WHATEVER THE INPUT: true; the input reads as it did. -/
def rankOrderSpec : ChangeSpec := { name := "rankOrder", fn := fun _ => fun
  | [d1, d2, d3] => { results := [.lit (.bool true)], args := [d1, d2, d3] }
  | _ => none }
def rankOrderRow : OpenClaim := { program := "ytjjagjehaoidbaa", sum := "702bee5661707cd4bae264e002a5278f9cfe7008c87575560a6bbf08faf519cb", func := "watchman/watchmanlaw07.RankOrder", spec := "rankOrder", unfollowed := true, recurses := true, apart := false }
def RankOrderSaid : Prop := rankOrderRow.holds Try.pinned (OpenSpec.ofChange rankOrderSpec)

/-- ITS FALSE NEIGHBOUR: 'it returns false'. Refute it at one input. -/
def rankOrderWrong : ChangeSpec := { name := "rankOrder", fn := fun _ => fun
  | [d1, d2, d3] => { results := [.lit (.bool false)], args := [d1, d2, d3] }
  | _ => none }
def RankOrderWrongFalsely : Prop := rankOrderRow.holds Try.pinned (OpenSpec.ofChange rankOrderWrong)

/-- 'watchmanlaw07.RankSorts': WHATEVER THE INPUT: true; the input reads as it did. -/
def rankSortsSpec : ChangeSpec := { name := "rankSorts", fn := fun _ => fun
  | [d1, d2] => { results := [.lit (.bool true)], args := [d1, d2] }
  | _ => none }
def rankSortsRow : OpenClaim := { program := "ytjjagjehaoidbaa", sum := "702bee5661707cd4bae264e002a5278f9cfe7008c87575560a6bbf08faf519cb", func := "watchman/watchmanlaw07.RankSorts", spec := "rankSorts", unfollowed := true, recurses := true, apart := false }
def RankSortsSaid : Prop := rankSortsRow.holds Try.pinned (OpenSpec.ofChange rankSortsSpec)

/-- ITS FALSE NEIGHBOUR: 'it returns false'. Refute it at one input. -/
def rankSortsWrong : ChangeSpec := { name := "rankSorts", fn := fun _ => fun
  | [d1, d2] => { results := [.lit (.bool false)], args := [d1, d2] }
  | _ => none }
def RankSortsWrongFalsely : Prop := rankSortsRow.holds Try.pinned (OpenSpec.ofChange rankSortsWrong)

/-- 'watchmanlaw07.RankTop': WHATEVER THE INPUT: true; the input reads as it did. -/
def rankTopSpec : ChangeSpec := { name := "rankTop", fn := fun _ => fun
  | [d1, d2, d3, d4] => { results := [.lit (.bool true)], args := [d1, d2, d3, d4] }
  | _ => none }
def rankTopRow : OpenClaim := { program := "ytjjagjehaoidbaa", sum := "702bee5661707cd4bae264e002a5278f9cfe7008c87575560a6bbf08faf519cb", func := "watchman/watchmanlaw07.RankTop", spec := "rankTop", unfollowed := true, recurses := true, apart := false }
def RankTopSaid : Prop := rankTopRow.holds Try.pinned (OpenSpec.ofChange rankTopSpec)

/-- ITS FALSE NEIGHBOUR: 'it returns false'. Refute it at one input. -/
def rankTopWrong : ChangeSpec := { name := "rankTop", fn := fun _ => fun
  | [d1, d2, d3, d4] => { results := [.lit (.bool false)], args := [d1, d2, d3, d4] }
  | _ => none }
def RankTopWrongFalsely : Prop := rankTopRow.holds Try.pinned (OpenSpec.ofChange rankTopWrong)

/-- 'watchmanlaw07.RankPlace': WHATEVER THE INPUT: true; the input reads as it did. -/
def rankPlaceSpec : ChangeSpec := { name := "rankPlace", fn := fun _ => fun
  | [d1, d2] => { results := [.lit (.bool true)], args := [d1, d2] }
  | _ => none }
def rankPlaceRow : OpenClaim := { program := "ytjjagjehaoidbaa", sum := "702bee5661707cd4bae264e002a5278f9cfe7008c87575560a6bbf08faf519cb", func := "watchman/watchmanlaw07.RankPlace", spec := "rankPlace", unfollowed := true, recurses := true, apart := false }
def RankPlaceSaid : Prop := rankPlaceRow.holds Try.pinned (OpenSpec.ofChange rankPlaceSpec)

/-- ITS FALSE NEIGHBOUR: 'it returns false'. Refute it at one input. -/
def rankPlaceWrong : ChangeSpec := { name := "rankPlace", fn := fun _ => fun
  | [d1, d2] => { results := [.lit (.bool false)], args := [d1, d2] }
  | _ => none }
def RankPlaceWrongFalsely : Prop := rankPlaceRow.holds Try.pinned (OpenSpec.ofChange rankPlaceWrong)

/- THE SECOND FORM. 'bulk': how many values and letters a reading holds, each counted each time it is reached (what is shared counts as often as it is met; a slice's spare places count too). A statement '..UptoSaid' is the law's where the arguments, and the package variables that the reading takes, are together of bulk at most 1048576: NARROWER than '..Said'. Prove '..Said' where nothing that the law and all that it calls make is longer than what came in: it says more and counts as full. Else prove '..UptoSaid'. A law counts once. -/
mutual
def uptoBulk {H : Type} : DataW H → Nat
  | .lit (.string bytes) => bytes.length + 1
  | .lit _ => 1
  | .nil => 1
  | .ptr d => uptoBulk d + 1
  | .slice elems spare => uptoBulkAll elems + uptoBulkAll spare + 1
  | .agg parts => uptoBulkAll parts + 1
  | .iface _ d => uptoBulk d + 1
  | .map entries => uptoBulkEntries entries + 1
  | .held _ => 1
def uptoBulkAll {H : Type} : List (DataW H) → Nat
  | [] => 0
  | d :: r => uptoBulk d + uptoBulkAll r
def uptoBulkEntries {H : Type} : List (Lit × DataW H) → Nat
  | [] => 0
  | x :: r => uptoBulkEntry x + uptoBulkEntries r
def uptoBulkEntry {H : Type} : Lit × DataW H → Nat
  | (.string bytes, d) => bytes.length + uptoBulk d + 1
  | (_, d) => uptoBulk d + 1
 end
def uptoSmall : (H : Type) → List (DataW H) → Bool := fun _ ds => decide (uptoBulkAll ds ≤ 1048576)
def OpenSpec.upto (s : _root_.Go.ChangeSpec) : _root_.Go.OpenSpec := { _root_.Go.OpenSpec.ofChange s with cond := some uptoSmall }

/-- 'watchmanlaw07.RankDoes', WHERE WHAT IT READS IS OF BULK AT MOST 1048576: true; the input reads as it did. -/
def rankDoesUptoRow : OpenClaim := { program := "ytjjagjehaoidbaa", sum := "702bee5661707cd4bae264e002a5278f9cfe7008c87575560a6bbf08faf519cb", func := "watchman/watchmanlaw07.RankDoes", spec := "rankDoes", unfollowed := true, recurses := true, apart := false, narrowed := true }
def RankDoesUptoSaid : Prop := rankDoesUptoRow.holds Try.pinned (OpenSpec.upto rankDoesSpec)

/-- 'watchmanlaw07.RankOrder', WHERE WHAT IT READS IS OF BULK AT MOST 1048576: true; the input reads as it did. -/
def rankOrderUptoRow : OpenClaim := { program := "ytjjagjehaoidbaa", sum := "702bee5661707cd4bae264e002a5278f9cfe7008c87575560a6bbf08faf519cb", func := "watchman/watchmanlaw07.RankOrder", spec := "rankOrder", unfollowed := true, recurses := true, apart := false, narrowed := true }
def RankOrderUptoSaid : Prop := rankOrderUptoRow.holds Try.pinned (OpenSpec.upto rankOrderSpec)

/-- 'watchmanlaw07.RankSorts', WHERE WHAT IT READS IS OF BULK AT MOST 1048576: true; the input reads as it did. -/
def rankSortsUptoRow : OpenClaim := { program := "ytjjagjehaoidbaa", sum := "702bee5661707cd4bae264e002a5278f9cfe7008c87575560a6bbf08faf519cb", func := "watchman/watchmanlaw07.RankSorts", spec := "rankSorts", unfollowed := true, recurses := true, apart := false, narrowed := true }
def RankSortsUptoSaid : Prop := rankSortsUptoRow.holds Try.pinned (OpenSpec.upto rankSortsSpec)

/-- 'watchmanlaw07.RankTop', WHERE WHAT IT READS IS OF BULK AT MOST 1048576: true; the input reads as it did. -/
def rankTopUptoRow : OpenClaim := { program := "ytjjagjehaoidbaa", sum := "702bee5661707cd4bae264e002a5278f9cfe7008c87575560a6bbf08faf519cb", func := "watchman/watchmanlaw07.RankTop", spec := "rankTop", unfollowed := true, recurses := true, apart := false, narrowed := true }
def RankTopUptoSaid : Prop := rankTopUptoRow.holds Try.pinned (OpenSpec.upto rankTopSpec)

/-- 'watchmanlaw07.RankPlace', WHERE WHAT IT READS IS OF BULK AT MOST 1048576: true; the input reads as it did. -/
def rankPlaceUptoRow : OpenClaim := { program := "ytjjagjehaoidbaa", sum := "702bee5661707cd4bae264e002a5278f9cfe7008c87575560a6bbf08faf519cb", func := "watchman/watchmanlaw07.RankPlace", spec := "rankPlace", unfollowed := true, recurses := true, apart := false, narrowed := true }
def RankPlaceUptoSaid : Prop := rankPlaceUptoRow.holds Try.pinned (OpenSpec.upto rankPlaceSpec)

end Rows
end Go.Proofs.Ytjjagjehaoidbaa
