/- CallerRuns: a script's steps. -/
import Derived.Test.YtopeokonlaljlaaE4
import Derived.Test.YtopeokonlaljlaaEng22
import Derived.Test.YtopeokonlaljlaaC9
set_option linter.unusedVariables false
namespace Go.Proofs.Ytopeokonlaljlaa
open Go.Eng Go.Proofs

structure StepS where
  kind : Int
  cmd : Cmd
  odd : Bool
  code : Int
  num : Int
  lines : List ByteArray
  n : Int
instance : Inhabited StepS := ⟨⟨0, zCmd, false, 0, 0, [], 0⟩⟩
abbrev StepS.cells (s : StepS) : List AV := [.int .i64 s.kind, .int .i64 s.cmd.session, .int .i64 s.cmd.request, .int .i64 s.cmd.kind, .int .i64 s.cmd.spot.bed, .int .i64 s.cmd.spot.channel, .int .i64 s.cmd.prio, .int .i64 s.cmd.at_, .int .i64 s.cmd.long, .bool s.odd, .int .i64 s.code, .int .i64 s.num, strsA s.lines, .int .i64 s.n]
abbrev scriptA (l : List StepS) : AV := .dsl 14 l.length (elK StepS.cells l)

noncomputable abbrev entsS (s : StepS) : List Ent := [fixEnt (fx13 s.code s.num s.lines), knowEnt 25 gIs, conEnt conask, knowEnt 16 gHear, knowEnt 18 gDeny, knowEnt 20 gTick, knowEnt 24 gCalled]
noncomputable abbrev cfSf (s : StepS) : CallF := runG Try.prog (entΔ (entsS s)) 60 4
theorem cfS (s : StepS) : CfOk Try.prog (cfSf s) := cfR s.code s.num s.lines
noncomputable def bd6 : Code := loopOf ((blocksOf 0 (codeAt Try.prog 6)).headD .skip)
theorem lp6_eq : blocksOf 0 (codeAt Try.prog 6) = [.loop bd6] := by kernel_rfl
noncomputable def run6 (s : StepS) : Run := runC2 Try.prog (tmpsAt Try.prog 6) (cfSf s) 60 bd6
theorem run6_ok (s : StepS) : RunW Try.prog (tmpsAt Try.prog 6) bd6 (run6 s) := (runC2_ok noNum mixed (cfS s) _).toW
end Go.Proofs.Ytopeokonlaljlaa
