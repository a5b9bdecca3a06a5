/- The structures of the caller. -/
import Derived.Test.YtopeokonlaljlaaEng14
import Derived.Test.YtopeokonlaljlaaProg
set_option linter.unusedVariables false
set_option linter.unusedSimpArgs false
namespace Go.Proofs.Ytopeokonlaljlaa
open Go.Eng Go.Proofs

@[ext] structure Spot where
  bed : Int
  channel : Int
abbrev Spot.cells (s : Spot) : List AV := [.int .i64 s.bed, .int .i64 s.channel]
def Spot.of : AV → Option Spot
  | .agg [.int .i64 a0, .int .i64 a1] => some ⟨a0, a1⟩
  | _ => none
theorem Spot.of_eq {a : AV} {s : Spot} (h : Spot.of a = some s) : a = .agg s.cells := by
  unfold Spot.of at h; split at h
  · cases h; rfl
  · cases h
@[ext] structure Cmd where
  session : Int
  request : Int
  kind : Int
  spot : Spot
  prio : Int
  at_ : Int
  long : Int
abbrev Cmd.cells (s : Cmd) : List AV := [.int .i64 s.session, .int .i64 s.request, .int .i64 s.kind, .int .i64 s.spot.bed, .int .i64 s.spot.channel, .int .i64 s.prio, .int .i64 s.at_, .int .i64 s.long]
def Cmd.of : AV → Option Cmd
  | .agg [.int .i64 a0, .int .i64 a1, .int .i64 a2, .int .i64 a3, .int .i64 a4, .int .i64 a5, .int .i64 a6, .int .i64 a7] => some ⟨a0, a1, a2, ⟨a3, a4⟩, a5, a6, a7⟩
  | _ => none
theorem Cmd.of_eq {a : AV} {s : Cmd} (h : Cmd.of a = some s) : a = .agg s.cells := by
  unfold Cmd.of at h; split at h
  · cases h; rfl
  · cases h
@[ext] structure Caller where
  session : Int
  request : Int
  busy : Bool
  cmd : Cmd
  to : Int
  n : Int
  wait : Int
  left : Int
abbrev Caller.cells (s : Caller) : List AV := [.int .i64 s.session, .int .i64 s.request, .bool s.busy, .int .i64 s.cmd.session, .int .i64 s.cmd.request, .int .i64 s.cmd.kind, .int .i64 s.cmd.spot.bed, .int .i64 s.cmd.spot.channel, .int .i64 s.cmd.prio, .int .i64 s.cmd.at_, .int .i64 s.cmd.long, .int .i64 s.to, .int .i64 s.n, .int .i64 s.wait, .int .i64 s.left]
def Caller.of : AV → Option Caller
  | .agg [.int .i64 a0, .int .i64 a1, .bool a2, .int .i64 a3, .int .i64 a4, .int .i64 a5, .int .i64 a6, .int .i64 a7, .int .i64 a8, .int .i64 a9, .int .i64 a10, .int .i64 a11, .int .i64 a12, .int .i64 a13, .int .i64 a14] => some ⟨a0, a1, a2, ⟨a3, a4, a5, ⟨a6, a7⟩, a8, a9, a10⟩, a11, a12, a13, a14⟩
  | _ => none
theorem Caller.of_eq {a : AV} {s : Caller} (h : Caller.of a = some s) : a = .agg s.cells := by
  unfold Caller.of at h; split at h
  · cases h; rfl
  · cases h
@[ext] structure Answer where
  code : Int
  num : Int
  lines : AV
abbrev Answer.cells (s : Answer) : List AV := [.int .i64 s.code, .int .i64 s.num, s.lines]
def Answer.of : AV → Option Answer
  | .agg [.int .i64 a0, .int .i64 a1, a2] => some ⟨a0, a1, a2⟩
  | _ => none
theorem Answer.of_eq {a : AV} {s : Answer} (h : Answer.of a = some s) : a = .agg s.cells := by
  unfold Answer.of at h; split at h
  · cases h; rfl
  · cases h

/-- Nothing is said of how many answers are drawn. -/
instance drN : Dr := ⟨False⟩
theorem noNum : NoNum Try.prog := noNumB_ok (by kernel_rfl)
theorem mixed : Try.prog.follows .mixedOrders = true := by kernel_rfl

end Go.Proofs.Ytopeokonlaljlaa
