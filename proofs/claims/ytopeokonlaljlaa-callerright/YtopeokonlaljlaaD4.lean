/- CallerRight: its body, piece by piece. -/
import Derived.Test.YtopeokonlaljlaaD2
import Derived.Test.YtopeokonlaljlaaEng25
set_option linter.unusedVariables false
namespace Go.Proofs.Ytopeokonlaljlaa
open Go.Eng Go.Proofs

noncomputable def sg4 (k n : Nat) : List Code := ((seqs (codeAt Try.prog 4)).drop k).take n
noncomputable def rn4 (k n : Nat) (i j : Int) (l : List ByteArray) : Run := runL (fun c => runC2 Try.prog (tmpsAt Try.prog 4) (runG Try.prog (entΔ (entsR i j l)) 60 4) 60 c) (sg4 k n)
theorem rn4_ok (k n : Nat) (i j : Int) (l : List ByteArray) : RunWL Try.prog (tmpsAt Try.prog 4) (sg4 k n) (rn4 k n i j l) := runL_ok _ fun c _ => (runC2_ok noNum mixed (cfR i j l) c).toW

/-- The state behind the four calls. -/
abbrev ev4 (f e : Int) (hd dn lt : Bool) : Env := [(3, some (.int .i64 f)), (4, some (.ptr 0 0 0)), (9, some (.ptr 1 0 0)), (10, some (.ptr 2 0 0)), (11, some (.int .i64 e)), (12, some (.ptr 3 0 0)), (13, some (.bool hd)), (14, some (.int .i64 0)), (15, some (.ptr 4 0 0)), (16, some (.bool dn)), (17, some (.int .i64 0)), (18, some (.ptr 5 0 0)), (19, some (.bool lt)), (20, some (.int .i64 0))]
abbrev hp4 (c b : Caller) (y : Cmd) (d g v : Caller) : Heap := [(0, some (.box 27 c.cells)), (1, some (.box 27 b.cells)), (2, some (.box 25 y.cells)), (3, some (.box 27 d.cells)), (4, some (.box 27 g.cells)), (5, some (.box 27 v.cells))]
abbrev T4 : Ren := [(0, 0), (3, 1), (4, 2), (5, 3), (6, 4), (7, 5)]
abbrev ts4 : List Nat := [3, 4, 9, 10, 11, 12, 13, 14, 15, 16, 17, 18, 19, 20]
end Go.Proofs.Ytopeokonlaljlaa
