/- Commands that may be. -/
import Derived.Test.YtopeokonlaljlaaC1
set_option linter.unusedVariables false
set_option linter.unusedSimpArgs false
namespace Go.Proofs.Ytopeokonlaljlaa
open Go.Eng Go.Proofs

def may (c : Cmd) : Bool :=
  bif (Cmd.kind c == (1 : Int)) then ((Cmd.session c == (0 : Int) && (Cmd.request c == (0 : Int) && (Cmd.kind c == (1 : Int) && (Spot.bed (Cmd.spot c) == (0 : Int) && Spot.channel (Cmd.spot c) == (0 : Int) && (Cmd.prio c == (0 : Int) && (Cmd.at_ c == (0 : Int) && Cmd.long c == (0 : Int))))))))
  else (bif (!mWithin (Cmd.session c) (1 : Int) (1000000000 : Int)) then false
    else (bif (!mWithin (Cmd.request c) (1 : Int) (1000000000 : Int)) then false
      else (bif (!mWithin (Cmd.at_ c) (0 : Int) (1000000000 : Int)) then false
        else (bif (Cmd.kind c == (2 : Int)) then (bif (spotIs (Cmd.spot c)) then (bif (mWithin (Cmd.prio c) (1 : Int) (3 : Int)) then ((Cmd.long c == (0 : Int)))
              else false)
            else false)
          else (bif (Cmd.kind c == (3 : Int)) then (bif (spotIs (Cmd.spot c)) then (bif (Cmd.prio c == (0 : Int)) then ((Cmd.long c == (0 : Int)))
                else false)
              else false)
            else (bif (Cmd.kind c == (5 : Int)) then (bif (spotIs (Cmd.spot c)) then (bif (Cmd.prio c == (0 : Int)) then ((Cmd.long c == (0 : Int)))
                  else false)
                else false)
              else (bif (Cmd.kind c == (4 : Int)) then (bif (spotIs (Cmd.spot c)) then (bif (Cmd.prio c == (0 : Int)) then ((mWithin (Cmd.long c) (1 : Int) (1000 : Int)))
                    else false)
                  else false)
                else (bif (Cmd.kind c == (6 : Int)) then (bif (spotIs (Cmd.spot c)) then (bif (Spot.channel (Cmd.spot c) == (0 : Int)) then (bif (Cmd.prio c == (0 : Int)) then ((mWithin (Cmd.long c) (1 : Int) (1000 : Int)))
                        else false)
                      else false)
                    else false)
                  else (bif (Cmd.kind c == (7 : Int)) then (bif (spotIs (Cmd.spot c)) then (bif (Spot.channel (Cmd.spot c) == (0 : Int)) then (bif (Cmd.prio c == (0 : Int)) then ((mWithin (Cmd.long c) (1 : Int) (1000 : Int)))
                          else false)
                        else false)
                      else false)
                    else (bif (Cmd.kind c == (8 : Int)) then (bif (Spot.bed (Cmd.spot c) == (0 : Int) && Spot.channel (Cmd.spot c) == (0 : Int)) then (bif (Cmd.prio c == (0 : Int)) then ((mWithin (Cmd.long c) (1 : Int) (20 : Int)))
                          else false)
                        else false)
                      else (bif (Cmd.kind c == (9 : Int)) then (bif (Spot.bed (Cmd.spot c) == (0 : Int) && Spot.channel (Cmd.spot c) == (0 : Int)) then (bif (Cmd.prio c == (0 : Int)) then ((Cmd.long c == (0 : Int)))
                            else false)
                          else false)
                        else false)))))))))))
theorem mayCf : CfOk Try.prog (runG Try.prog (conΔ [conmWithin, conspotIs]) 60 12) := runG_ok noNum mixed (conΔ_ok (List.forall_mem_cons.2 ⟨conmWithin_ok, List.forall_mem_cons.2 ⟨conspotIs_ok, List.forall_mem_nil _⟩⟩)) _
theorem may_w0 (c : Cmd) : resOf (runG Try.prog (conΔ [conmWithin, conspotIs]) 60 12 41 [.agg (Cmd.cells c)] [] 0 [.go 0 true]) = some (.ret (.bool (Cmd.session c == (0 : Int) && (Cmd.request c == (0 : Int) && (Cmd.kind c == (1 : Int) && (Spot.bed (Cmd.spot c) == (0 : Int) && Spot.channel (Cmd.spot c) == (0 : Int) && (Cmd.prio c == (0 : Int) && (Cmd.at_ c == (0 : Int) && Cmd.long c == (0 : Int)))))))), [(true, (Cmd.kind c == (1 : Int)))]) := by kernel_rfl
theorem may_w1 (c : Cmd) : resOf (runG Try.prog (conΔ [conmWithin, conspotIs]) 60 12 41 [.agg (Cmd.cells c)] [] 0 [.go 0 false, .go 0 true]) = some (.ret (.bool false), [(false, (Cmd.kind c == (1 : Int))), (true, (!mWithin (Cmd.session c) (1 : Int) (1000000000 : Int)))]) := by kernel_rfl
theorem may_w2 (c : Cmd) : resOf (runG Try.prog (conΔ [conmWithin, conspotIs]) 60 12 41 [.agg (Cmd.cells c)] [] 0 [.go 0 false, .go 0 false, .go 0 true]) = some (.ret (.bool false), [(false, (Cmd.kind c == (1 : Int))), (false, (!mWithin (Cmd.session c) (1 : Int) (1000000000 : Int))), (true, (!mWithin (Cmd.request c) (1 : Int) (1000000000 : Int)))]) := by kernel_rfl
theorem may_w3 (c : Cmd) : resOf (runG Try.prog (conΔ [conmWithin, conspotIs]) 60 12 41 [.agg (Cmd.cells c)] [] 0 [.go 0 false, .go 0 false, .go 0 false, .go 0 true]) = some (.ret (.bool false), [(false, (Cmd.kind c == (1 : Int))), (false, (!mWithin (Cmd.session c) (1 : Int) (1000000000 : Int))), (false, (!mWithin (Cmd.request c) (1 : Int) (1000000000 : Int))), (true, (!mWithin (Cmd.at_ c) (0 : Int) (1000000000 : Int)))]) := by kernel_rfl
theorem may_w4 (c : Cmd) : resOf (runG Try.prog (conΔ [conmWithin, conspotIs]) 60 12 41 [.agg (Cmd.cells c)] [] 0 [.go 0 false, .go 0 false, .go 0 false, .go 0 false, .go 0 true, .go 0 true, .go 0 true]) = some (.ret (.bool (Cmd.long c == (0 : Int))), [(false, (Cmd.kind c == (1 : Int))), (false, (!mWithin (Cmd.session c) (1 : Int) (1000000000 : Int))), (false, (!mWithin (Cmd.request c) (1 : Int) (1000000000 : Int))), (false, (!mWithin (Cmd.at_ c) (0 : Int) (1000000000 : Int))), (true, (Cmd.kind c == (2 : Int))), (true, (spotIs (Cmd.spot c))), (true, (mWithin (Cmd.prio c) (1 : Int) (3 : Int)))]) := by kernel_rfl
theorem may_w5 (c : Cmd) : resOf (runG Try.prog (conΔ [conmWithin, conspotIs]) 60 12 41 [.agg (Cmd.cells c)] [] 0 [.go 0 false, .go 0 false, .go 0 false, .go 0 false, .go 0 true, .go 0 true, .go 0 false]) = some (.ret (.bool false), [(false, (Cmd.kind c == (1 : Int))), (false, (!mWithin (Cmd.session c) (1 : Int) (1000000000 : Int))), (false, (!mWithin (Cmd.request c) (1 : Int) (1000000000 : Int))), (false, (!mWithin (Cmd.at_ c) (0 : Int) (1000000000 : Int))), (true, (Cmd.kind c == (2 : Int))), (true, (spotIs (Cmd.spot c))), (false, (mWithin (Cmd.prio c) (1 : Int) (3 : Int)))]) := by kernel_rfl
theorem may_w6 (c : Cmd) : resOf (runG Try.prog (conΔ [conmWithin, conspotIs]) 60 12 41 [.agg (Cmd.cells c)] [] 0 [.go 0 false, .go 0 false, .go 0 false, .go 0 false, .go 0 true, .go 0 false]) = some (.ret (.bool false), [(false, (Cmd.kind c == (1 : Int))), (false, (!mWithin (Cmd.session c) (1 : Int) (1000000000 : Int))), (false, (!mWithin (Cmd.request c) (1 : Int) (1000000000 : Int))), (false, (!mWithin (Cmd.at_ c) (0 : Int) (1000000000 : Int))), (true, (Cmd.kind c == (2 : Int))), (false, (spotIs (Cmd.spot c)))]) := by kernel_rfl
theorem may_w7 (c : Cmd) : resOf (runG Try.prog (conΔ [conmWithin, conspotIs]) 60 12 41 [.agg (Cmd.cells c)] [] 0 [.go 0 false, .go 0 false, .go 0 false, .go 0 false, .go 0 false, .go 0 true, .go 0 true, .go 0 true, .go 0 true]) = some (.ret (.bool (Cmd.long c == (0 : Int))), [(false, (Cmd.kind c == (1 : Int))), (false, (!mWithin (Cmd.session c) (1 : Int) (1000000000 : Int))), (false, (!mWithin (Cmd.request c) (1 : Int) (1000000000 : Int))), (false, (!mWithin (Cmd.at_ c) (0 : Int) (1000000000 : Int))), (false, (Cmd.kind c == (2 : Int))), (true, (Cmd.kind c == (3 : Int))), (true, (Cmd.kind c == (3 : Int))), (true, (spotIs (Cmd.spot c))), (true, (Cmd.prio c == (0 : Int)))]) := by kernel_rfl
theorem may_w8 (c : Cmd) : resOf (runG Try.prog (conΔ [conmWithin, conspotIs]) 60 12 41 [.agg (Cmd.cells c)] [] 0 [.go 0 false, .go 0 false, .go 0 false, .go 0 false, .go 0 false, .go 0 true, .go 0 true, .go 0 true, .go 0 false]) = some (.ret (.bool false), [(false, (Cmd.kind c == (1 : Int))), (false, (!mWithin (Cmd.session c) (1 : Int) (1000000000 : Int))), (false, (!mWithin (Cmd.request c) (1 : Int) (1000000000 : Int))), (false, (!mWithin (Cmd.at_ c) (0 : Int) (1000000000 : Int))), (false, (Cmd.kind c == (2 : Int))), (true, (Cmd.kind c == (3 : Int))), (true, (Cmd.kind c == (3 : Int))), (true, (spotIs (Cmd.spot c))), (false, (Cmd.prio c == (0 : Int)))]) := by kernel_rfl
theorem may_w9 (c : Cmd) : resOf (runG Try.prog (conΔ [conmWithin, conspotIs]) 60 12 41 [.agg (Cmd.cells c)] [] 0 [.go 0 false, .go 0 false, .go 0 false, .go 0 false, .go 0 false, .go 0 true, .go 0 true, .go 0 false]) = some (.ret (.bool false), [(false, (Cmd.kind c == (1 : Int))), (false, (!mWithin (Cmd.session c) (1 : Int) (1000000000 : Int))), (false, (!mWithin (Cmd.request c) (1 : Int) (1000000000 : Int))), (false, (!mWithin (Cmd.at_ c) (0 : Int) (1000000000 : Int))), (false, (Cmd.kind c == (2 : Int))), (true, (Cmd.kind c == (3 : Int))), (true, (Cmd.kind c == (3 : Int))), (false, (spotIs (Cmd.spot c)))]) := by kernel_rfl
theorem may_w10 (c : Cmd) : resOf (runG Try.prog (conΔ [conmWithin, conspotIs]) 60 12 41 [.agg (Cmd.cells c)] [] 0 [.go 0 false, .go 0 false, .go 0 false, .go 0 false, .go 0 false, .go 0 false, .go 0 true, .go 0 true, .go 0 true]) = some (.ret (.bool (Cmd.long c == (0 : Int))), [(false, (Cmd.kind c == (1 : Int))), (false, (!mWithin (Cmd.session c) (1 : Int) (1000000000 : Int))), (false, (!mWithin (Cmd.request c) (1 : Int) (1000000000 : Int))), (false, (!mWithin (Cmd.at_ c) (0 : Int) (1000000000 : Int))), (false, (Cmd.kind c == (2 : Int))), (false, (Cmd.kind c == (3 : Int))), (true, (Cmd.kind c == (5 : Int))), (true, (spotIs (Cmd.spot c))), (true, (Cmd.prio c == (0 : Int)))]) := by kernel_rfl
theorem may_w11 (c : Cmd) : resOf (runG Try.prog (conΔ [conmWithin, conspotIs]) 60 12 41 [.agg (Cmd.cells c)] [] 0 [.go 0 false, .go 0 false, .go 0 false, .go 0 false, .go 0 false, .go 0 false, .go 0 true, .go 0 true, .go 0 false]) = some (.ret (.bool false), [(false, (Cmd.kind c == (1 : Int))), (false, (!mWithin (Cmd.session c) (1 : Int) (1000000000 : Int))), (false, (!mWithin (Cmd.request c) (1 : Int) (1000000000 : Int))), (false, (!mWithin (Cmd.at_ c) (0 : Int) (1000000000 : Int))), (false, (Cmd.kind c == (2 : Int))), (false, (Cmd.kind c == (3 : Int))), (true, (Cmd.kind c == (5 : Int))), (true, (spotIs (Cmd.spot c))), (false, (Cmd.prio c == (0 : Int)))]) := by kernel_rfl
theorem may_w12 (c : Cmd) : resOf (runG Try.prog (conΔ [conmWithin, conspotIs]) 60 12 41 [.agg (Cmd.cells c)] [] 0 [.go 0 false, .go 0 false, .go 0 false, .go 0 false, .go 0 false, .go 0 false, .go 0 true, .go 0 false]) = some (.ret (.bool false), [(false, (Cmd.kind c == (1 : Int))), (false, (!mWithin (Cmd.session c) (1 : Int) (1000000000 : Int))), (false, (!mWithin (Cmd.request c) (1 : Int) (1000000000 : Int))), (false, (!mWithin (Cmd.at_ c) (0 : Int) (1000000000 : Int))), (false, (Cmd.kind c == (2 : Int))), (false, (Cmd.kind c == (3 : Int))), (true, (Cmd.kind c == (5 : Int))), (false, (spotIs (Cmd.spot c)))]) := by kernel_rfl
theorem may_w13 (c : Cmd) : resOf (runG Try.prog (conΔ [conmWithin, conspotIs]) 60 12 41 [.agg (Cmd.cells c)] [] 0 [.go 0 false, .go 0 false, .go 0 false, .go 0 false, .go 0 false, .go 0 false, .go 0 false, .go 0 true, .go 0 true, .go 0 true]) = some (.ret (.bool (mWithin (Cmd.long c) (1 : Int) (1000 : Int))), [(false, (Cmd.kind c == (1 : Int))), (false, (!mWithin (Cmd.session c) (1 : Int) (1000000000 : Int))), (false, (!mWithin (Cmd.request c) (1 : Int) (1000000000 : Int))), (false, (!mWithin (Cmd.at_ c) (0 : Int) (1000000000 : Int))), (false, (Cmd.kind c == (2 : Int))), (false, (Cmd.kind c == (3 : Int))), (false, (Cmd.kind c == (5 : Int))), (true, (Cmd.kind c == (4 : Int))), (true, (spotIs (Cmd.spot c))), (true, (Cmd.prio c == (0 : Int)))]) := by kernel_rfl
theorem may_w14 (c : Cmd) : resOf (runG Try.prog (conΔ [conmWithin, conspotIs]) 60 12 41 [.agg (Cmd.cells c)] [] 0 [.go 0 false, .go 0 false, .go 0 false, .go 0 false, .go 0 false, .go 0 false, .go 0 false, .go 0 true, .go 0 true, .go 0 false]) = some (.ret (.bool false), [(false, (Cmd.kind c == (1 : Int))), (false, (!mWithin (Cmd.session c) (1 : Int) (1000000000 : Int))), (false, (!mWithin (Cmd.request c) (1 : Int) (1000000000 : Int))), (false, (!mWithin (Cmd.at_ c) (0 : Int) (1000000000 : Int))), (false, (Cmd.kind c == (2 : Int))), (false, (Cmd.kind c == (3 : Int))), (false, (Cmd.kind c == (5 : Int))), (true, (Cmd.kind c == (4 : Int))), (true, (spotIs (Cmd.spot c))), (false, (Cmd.prio c == (0 : Int)))]) := by kernel_rfl
theorem may_w15 (c : Cmd) : resOf (runG Try.prog (conΔ [conmWithin, conspotIs]) 60 12 41 [.agg (Cmd.cells c)] [] 0 [.go 0 false, .go 0 false, .go 0 false, .go 0 false, .go 0 false, .go 0 false, .go 0 false, .go 0 true, .go 0 false]) = some (.ret (.bool false), [(false, (Cmd.kind c == (1 : Int))), (false, (!mWithin (Cmd.session c) (1 : Int) (1000000000 : Int))), (false, (!mWithin (Cmd.request c) (1 : Int) (1000000000 : Int))), (false, (!mWithin (Cmd.at_ c) (0 : Int) (1000000000 : Int))), (false, (Cmd.kind c == (2 : Int))), (false, (Cmd.kind c == (3 : Int))), (false, (Cmd.kind c == (5 : Int))), (true, (Cmd.kind c == (4 : Int))), (false, (spotIs (Cmd.spot c)))]) := by kernel_rfl
theorem may_w16 (c : Cmd) : resOf (runG Try.prog (conΔ [conmWithin, conspotIs]) 60 12 41 [.agg (Cmd.cells c)] [] 0 [.go 0 false, .go 0 false, .go 0 false, .go 0 false, .go 0 false, .go 0 false, .go 0 false, .go 0 false, .go 0 true, .go 0 true, .go 0 true, .go 0 true, .go 0 true]) = some (.ret (.bool (mWithin (Cmd.long c) (1 : Int) (1000 : Int))), [(false, (Cmd.kind c == (1 : Int))), (false, (!mWithin (Cmd.session c) (1 : Int) (1000000000 : Int))), (false, (!mWithin (Cmd.request c) (1 : Int) (1000000000 : Int))), (false, (!mWithin (Cmd.at_ c) (0 : Int) (1000000000 : Int))), (false, (Cmd.kind c == (2 : Int))), (false, (Cmd.kind c == (3 : Int))), (false, (Cmd.kind c == (5 : Int))), (false, (Cmd.kind c == (4 : Int))), (true, (Cmd.kind c == (6 : Int))), (true, (Cmd.kind c == (6 : Int))), (true, (spotIs (Cmd.spot c))), (true, (Spot.channel (Cmd.spot c) == (0 : Int))), (true, (Cmd.prio c == (0 : Int)))]) := by kernel_rfl
theorem may_w17 (c : Cmd) : resOf (runG Try.prog (conΔ [conmWithin, conspotIs]) 60 12 41 [.agg (Cmd.cells c)] [] 0 [.go 0 false, .go 0 false, .go 0 false, .go 0 false, .go 0 false, .go 0 false, .go 0 false, .go 0 false, .go 0 true, .go 0 true, .go 0 true, .go 0 true, .go 0 false]) = some (.ret (.bool false), [(false, (Cmd.kind c == (1 : Int))), (false, (!mWithin (Cmd.session c) (1 : Int) (1000000000 : Int))), (false, (!mWithin (Cmd.request c) (1 : Int) (1000000000 : Int))), (false, (!mWithin (Cmd.at_ c) (0 : Int) (1000000000 : Int))), (false, (Cmd.kind c == (2 : Int))), (false, (Cmd.kind c == (3 : Int))), (false, (Cmd.kind c == (5 : Int))), (false, (Cmd.kind c == (4 : Int))), (true, (Cmd.kind c == (6 : Int))), (true, (Cmd.kind c == (6 : Int))), (true, (spotIs (Cmd.spot c))), (true, (Spot.channel (Cmd.spot c) == (0 : Int))), (false, (Cmd.prio c == (0 : Int)))]) := by kernel_rfl
theorem may_w18 (c : Cmd) : resOf (runG Try.prog (conΔ [conmWithin, conspotIs]) 60 12 41 [.agg (Cmd.cells c)] [] 0 [.go 0 false, .go 0 false, .go 0 false, .go 0 false, .go 0 false, .go 0 false, .go 0 false, .go 0 false, .go 0 true, .go 0 true, .go 0 true, .go 0 false]) = some (.ret (.bool false), [(false, (Cmd.kind c == (1 : Int))), (false, (!mWithin (Cmd.session c) (1 : Int) (1000000000 : Int))), (false, (!mWithin (Cmd.request c) (1 : Int) (1000000000 : Int))), (false, (!mWithin (Cmd.at_ c) (0 : Int) (1000000000 : Int))), (false, (Cmd.kind c == (2 : Int))), (false, (Cmd.kind c == (3 : Int))), (false, (Cmd.kind c == (5 : Int))), (false, (Cmd.kind c == (4 : Int))), (true, (Cmd.kind c == (6 : Int))), (true, (Cmd.kind c == (6 : Int))), (true, (spotIs (Cmd.spot c))), (false, (Spot.channel (Cmd.spot c) == (0 : Int)))]) := by kernel_rfl
theorem may_w19 (c : Cmd) : resOf (runG Try.prog (conΔ [conmWithin, conspotIs]) 60 12 41 [.agg (Cmd.cells c)] [] 0 [.go 0 false, .go 0 false, .go 0 false, .go 0 false, .go 0 false, .go 0 false, .go 0 false, .go 0 false, .go 0 true, .go 0 true, .go 0 false]) = some (.ret (.bool false), [(false, (Cmd.kind c == (1 : Int))), (false, (!mWithin (Cmd.session c) (1 : Int) (1000000000 : Int))), (false, (!mWithin (Cmd.request c) (1 : Int) (1000000000 : Int))), (false, (!mWithin (Cmd.at_ c) (0 : Int) (1000000000 : Int))), (false, (Cmd.kind c == (2 : Int))), (false, (Cmd.kind c == (3 : Int))), (false, (Cmd.kind c == (5 : Int))), (false, (Cmd.kind c == (4 : Int))), (true, (Cmd.kind c == (6 : Int))), (true, (Cmd.kind c == (6 : Int))), (false, (spotIs (Cmd.spot c)))]) := by kernel_rfl
theorem may_w20 (c : Cmd) : resOf (runG Try.prog (conΔ [conmWithin, conspotIs]) 60 12 41 [.agg (Cmd.cells c)] [] 0 [.go 0 false, .go 0 false, .go 0 false, .go 0 false, .go 0 false, .go 0 false, .go 0 false, .go 0 false, .go 0 false, .go 0 true, .go 0 true, .go 0 true, .go 0 true]) = some (.ret (.bool (mWithin (Cmd.long c) (1 : Int) (1000 : Int))), [(false, (Cmd.kind c == (1 : Int))), (false, (!mWithin (Cmd.session c) (1 : Int) (1000000000 : Int))), (false, (!mWithin (Cmd.request c) (1 : Int) (1000000000 : Int))), (false, (!mWithin (Cmd.at_ c) (0 : Int) (1000000000 : Int))), (false, (Cmd.kind c == (2 : Int))), (false, (Cmd.kind c == (3 : Int))), (false, (Cmd.kind c == (5 : Int))), (false, (Cmd.kind c == (4 : Int))), (false, (Cmd.kind c == (6 : Int))), (true, (Cmd.kind c == (7 : Int))), (true, (spotIs (Cmd.spot c))), (true, (Spot.channel (Cmd.spot c) == (0 : Int))), (true, (Cmd.prio c == (0 : Int)))]) := by kernel_rfl
theorem may_w21 (c : Cmd) : resOf (runG Try.prog (conΔ [conmWithin, conspotIs]) 60 12 41 [.agg (Cmd.cells c)] [] 0 [.go 0 false, .go 0 false, .go 0 false, .go 0 false, .go 0 false, .go 0 false, .go 0 false, .go 0 false, .go 0 false, .go 0 true, .go 0 true, .go 0 true, .go 0 false]) = some (.ret (.bool false), [(false, (Cmd.kind c == (1 : Int))), (false, (!mWithin (Cmd.session c) (1 : Int) (1000000000 : Int))), (false, (!mWithin (Cmd.request c) (1 : Int) (1000000000 : Int))), (false, (!mWithin (Cmd.at_ c) (0 : Int) (1000000000 : Int))), (false, (Cmd.kind c == (2 : Int))), (false, (Cmd.kind c == (3 : Int))), (false, (Cmd.kind c == (5 : Int))), (false, (Cmd.kind c == (4 : Int))), (false, (Cmd.kind c == (6 : Int))), (true, (Cmd.kind c == (7 : Int))), (true, (spotIs (Cmd.spot c))), (true, (Spot.channel (Cmd.spot c) == (0 : Int))), (false, (Cmd.prio c == (0 : Int)))]) := by kernel_rfl
theorem may_w22 (c : Cmd) : resOf (runG Try.prog (conΔ [conmWithin, conspotIs]) 60 12 41 [.agg (Cmd.cells c)] [] 0 [.go 0 false, .go 0 false, .go 0 false, .go 0 false, .go 0 false, .go 0 false, .go 0 false, .go 0 false, .go 0 false, .go 0 true, .go 0 true, .go 0 false]) = some (.ret (.bool false), [(false, (Cmd.kind c == (1 : Int))), (false, (!mWithin (Cmd.session c) (1 : Int) (1000000000 : Int))), (false, (!mWithin (Cmd.request c) (1 : Int) (1000000000 : Int))), (false, (!mWithin (Cmd.at_ c) (0 : Int) (1000000000 : Int))), (false, (Cmd.kind c == (2 : Int))), (false, (Cmd.kind c == (3 : Int))), (false, (Cmd.kind c == (5 : Int))), (false, (Cmd.kind c == (4 : Int))), (false, (Cmd.kind c == (6 : Int))), (true, (Cmd.kind c == (7 : Int))), (true, (spotIs (Cmd.spot c))), (false, (Spot.channel (Cmd.spot c) == (0 : Int)))]) := by kernel_rfl
theorem may_w23 (c : Cmd) : resOf (runG Try.prog (conΔ [conmWithin, conspotIs]) 60 12 41 [.agg (Cmd.cells c)] [] 0 [.go 0 false, .go 0 false, .go 0 false, .go 0 false, .go 0 false, .go 0 false, .go 0 false, .go 0 false, .go 0 false, .go 0 true, .go 0 false]) = some (.ret (.bool false), [(false, (Cmd.kind c == (1 : Int))), (false, (!mWithin (Cmd.session c) (1 : Int) (1000000000 : Int))), (false, (!mWithin (Cmd.request c) (1 : Int) (1000000000 : Int))), (false, (!mWithin (Cmd.at_ c) (0 : Int) (1000000000 : Int))), (false, (Cmd.kind c == (2 : Int))), (false, (Cmd.kind c == (3 : Int))), (false, (Cmd.kind c == (5 : Int))), (false, (Cmd.kind c == (4 : Int))), (false, (Cmd.kind c == (6 : Int))), (true, (Cmd.kind c == (7 : Int))), (false, (spotIs (Cmd.spot c)))]) := by kernel_rfl
theorem may_w24 (c : Cmd) : resOf (runG Try.prog (conΔ [conmWithin, conspotIs]) 60 12 41 [.agg (Cmd.cells c)] [] 0 [.go 0 false, .go 0 false, .go 0 false, .go 0 false, .go 0 false, .go 0 false, .go 0 false, .go 0 false, .go 0 false, .go 0 false, .go 0 true, .go 0 true, .go 0 true]) = some (.ret (.bool (mWithin (Cmd.long c) (1 : Int) (20 : Int))), [(false, (Cmd.kind c == (1 : Int))), (false, (!mWithin (Cmd.session c) (1 : Int) (1000000000 : Int))), (false, (!mWithin (Cmd.request c) (1 : Int) (1000000000 : Int))), (false, (!mWithin (Cmd.at_ c) (0 : Int) (1000000000 : Int))), (false, (Cmd.kind c == (2 : Int))), (false, (Cmd.kind c == (3 : Int))), (false, (Cmd.kind c == (5 : Int))), (false, (Cmd.kind c == (4 : Int))), (false, (Cmd.kind c == (6 : Int))), (false, (Cmd.kind c == (7 : Int))), (true, (Cmd.kind c == (8 : Int))), (true, (Spot.bed (Cmd.spot c) == (0 : Int) && Spot.channel (Cmd.spot c) == (0 : Int))), (true, (Cmd.prio c == (0 : Int)))]) := by kernel_rfl
theorem may_w25 (c : Cmd) : resOf (runG Try.prog (conΔ [conmWithin, conspotIs]) 60 12 41 [.agg (Cmd.cells c)] [] 0 [.go 0 false, .go 0 false, .go 0 false, .go 0 false, .go 0 false, .go 0 false, .go 0 false, .go 0 false, .go 0 false, .go 0 false, .go 0 true, .go 0 true, .go 0 false]) = some (.ret (.bool false), [(false, (Cmd.kind c == (1 : Int))), (false, (!mWithin (Cmd.session c) (1 : Int) (1000000000 : Int))), (false, (!mWithin (Cmd.request c) (1 : Int) (1000000000 : Int))), (false, (!mWithin (Cmd.at_ c) (0 : Int) (1000000000 : Int))), (false, (Cmd.kind c == (2 : Int))), (false, (Cmd.kind c == (3 : Int))), (false, (Cmd.kind c == (5 : Int))), (false, (Cmd.kind c == (4 : Int))), (false, (Cmd.kind c == (6 : Int))), (false, (Cmd.kind c == (7 : Int))), (true, (Cmd.kind c == (8 : Int))), (true, (Spot.bed (Cmd.spot c) == (0 : Int) && Spot.channel (Cmd.spot c) == (0 : Int))), (false, (Cmd.prio c == (0 : Int)))]) := by kernel_rfl
theorem may_w26 (c : Cmd) : resOf (runG Try.prog (conΔ [conmWithin, conspotIs]) 60 12 41 [.agg (Cmd.cells c)] [] 0 [.go 0 false, .go 0 false, .go 0 false, .go 0 false, .go 0 false, .go 0 false, .go 0 false, .go 0 false, .go 0 false, .go 0 false, .go 0 true, .go 0 false]) = some (.ret (.bool false), [(false, (Cmd.kind c == (1 : Int))), (false, (!mWithin (Cmd.session c) (1 : Int) (1000000000 : Int))), (false, (!mWithin (Cmd.request c) (1 : Int) (1000000000 : Int))), (false, (!mWithin (Cmd.at_ c) (0 : Int) (1000000000 : Int))), (false, (Cmd.kind c == (2 : Int))), (false, (Cmd.kind c == (3 : Int))), (false, (Cmd.kind c == (5 : Int))), (false, (Cmd.kind c == (4 : Int))), (false, (Cmd.kind c == (6 : Int))), (false, (Cmd.kind c == (7 : Int))), (true, (Cmd.kind c == (8 : Int))), (false, (Spot.bed (Cmd.spot c) == (0 : Int) && Spot.channel (Cmd.spot c) == (0 : Int)))]) := by kernel_rfl
theorem may_w27 (c : Cmd) : resOf (runG Try.prog (conΔ [conmWithin, conspotIs]) 60 12 41 [.agg (Cmd.cells c)] [] 0 [.go 0 false, .go 0 false, .go 0 false, .go 0 false, .go 0 false, .go 0 false, .go 0 false, .go 0 false, .go 0 false, .go 0 false, .go 0 false, .go 0 true, .go 0 true, .go 0 true]) = some (.ret (.bool (Cmd.long c == (0 : Int))), [(false, (Cmd.kind c == (1 : Int))), (false, (!mWithin (Cmd.session c) (1 : Int) (1000000000 : Int))), (false, (!mWithin (Cmd.request c) (1 : Int) (1000000000 : Int))), (false, (!mWithin (Cmd.at_ c) (0 : Int) (1000000000 : Int))), (false, (Cmd.kind c == (2 : Int))), (false, (Cmd.kind c == (3 : Int))), (false, (Cmd.kind c == (5 : Int))), (false, (Cmd.kind c == (4 : Int))), (false, (Cmd.kind c == (6 : Int))), (false, (Cmd.kind c == (7 : Int))), (false, (Cmd.kind c == (8 : Int))), (true, (Cmd.kind c == (9 : Int))), (true, (Spot.bed (Cmd.spot c) == (0 : Int) && Spot.channel (Cmd.spot c) == (0 : Int))), (true, (Cmd.prio c == (0 : Int)))]) := by kernel_rfl
theorem may_w28 (c : Cmd) : resOf (runG Try.prog (conΔ [conmWithin, conspotIs]) 60 12 41 [.agg (Cmd.cells c)] [] 0 [.go 0 false, .go 0 false, .go 0 false, .go 0 false, .go 0 false, .go 0 false, .go 0 false, .go 0 false, .go 0 false, .go 0 false, .go 0 false, .go 0 true, .go 0 true, .go 0 false]) = some (.ret (.bool false), [(false, (Cmd.kind c == (1 : Int))), (false, (!mWithin (Cmd.session c) (1 : Int) (1000000000 : Int))), (false, (!mWithin (Cmd.request c) (1 : Int) (1000000000 : Int))), (false, (!mWithin (Cmd.at_ c) (0 : Int) (1000000000 : Int))), (false, (Cmd.kind c == (2 : Int))), (false, (Cmd.kind c == (3 : Int))), (false, (Cmd.kind c == (5 : Int))), (false, (Cmd.kind c == (4 : Int))), (false, (Cmd.kind c == (6 : Int))), (false, (Cmd.kind c == (7 : Int))), (false, (Cmd.kind c == (8 : Int))), (true, (Cmd.kind c == (9 : Int))), (true, (Spot.bed (Cmd.spot c) == (0 : Int) && Spot.channel (Cmd.spot c) == (0 : Int))), (false, (Cmd.prio c == (0 : Int)))]) := by kernel_rfl
theorem may_w29 (c : Cmd) : resOf (runG Try.prog (conΔ [conmWithin, conspotIs]) 60 12 41 [.agg (Cmd.cells c)] [] 0 [.go 0 false, .go 0 false, .go 0 false, .go 0 false, .go 0 false, .go 0 false, .go 0 false, .go 0 false, .go 0 false, .go 0 false, .go 0 false, .go 0 true, .go 0 false]) = some (.ret (.bool false), [(false, (Cmd.kind c == (1 : Int))), (false, (!mWithin (Cmd.session c) (1 : Int) (1000000000 : Int))), (false, (!mWithin (Cmd.request c) (1 : Int) (1000000000 : Int))), (false, (!mWithin (Cmd.at_ c) (0 : Int) (1000000000 : Int))), (false, (Cmd.kind c == (2 : Int))), (false, (Cmd.kind c == (3 : Int))), (false, (Cmd.kind c == (5 : Int))), (false, (Cmd.kind c == (4 : Int))), (false, (Cmd.kind c == (6 : Int))), (false, (Cmd.kind c == (7 : Int))), (false, (Cmd.kind c == (8 : Int))), (true, (Cmd.kind c == (9 : Int))), (false, (Spot.bed (Cmd.spot c) == (0 : Int) && Spot.channel (Cmd.spot c) == (0 : Int)))]) := by kernel_rfl
theorem may_w30 (c : Cmd) : resOf (runG Try.prog (conΔ [conmWithin, conspotIs]) 60 12 41 [.agg (Cmd.cells c)] [] 0 [.go 0 false, .go 0 false, .go 0 false, .go 0 false, .go 0 false, .go 0 false, .go 0 false, .go 0 false, .go 0 false, .go 0 false, .go 0 false, .go 0 false]) = some (.ret (.bool false), [(false, (Cmd.kind c == (1 : Int))), (false, (!mWithin (Cmd.session c) (1 : Int) (1000000000 : Int))), (false, (!mWithin (Cmd.request c) (1 : Int) (1000000000 : Int))), (false, (!mWithin (Cmd.at_ c) (0 : Int) (1000000000 : Int))), (false, (Cmd.kind c == (2 : Int))), (false, (Cmd.kind c == (3 : Int))), (false, (Cmd.kind c == (5 : Int))), (false, (Cmd.kind c == (4 : Int))), (false, (Cmd.kind c == (6 : Int))), (false, (Cmd.kind c == (7 : Int))), (false, (Cmd.kind c == (8 : Int))), (false, (Cmd.kind c == (9 : Int)))]) := by kernel_rfl
theorem may_ok (c : Cmd)  (h : Heap) (n : Nat) : CallOk Try.prog 41 [.agg (Cmd.cells c)] h n (.ret (.bool (may c))) h n := by
  rcases Bool.eq_false_or_eq_true (Cmd.kind c == (1 : Int)) with h0 | h0
  · 
    have e : may c = (Cmd.session c == (0 : Int) && (Cmd.request c == (0 : Int) && (Cmd.kind c == (1 : Int) && (Spot.bed (Cmd.spot c) == (0 : Int) && Spot.channel (Cmd.spot c) == (0 : Int) && (Cmd.prio c == (0 : Int) && (Cmd.at_ c == (0 : Int) && Cmd.long c == (0 : Int))))))) := by simp only [may, h0, cond]
    rw [e]
    exact way mayCf (may_w0 c) (conds_cons h0.symm conds_nil) rfl rfl h n
  · 
    rcases Bool.eq_false_or_eq_true (!mWithin (Cmd.session c) (1 : Int) (1000000000 : Int)) with h1 | h1
    · 
      have e : may c = false := by simp only [may, h0, h1, cond]
      rw [e]
      exact way mayCf (may_w1 c) (conds_cons h0.symm (conds_cons h1.symm conds_nil)) rfl rfl h n
    · 
      rcases Bool.eq_false_or_eq_true (!mWithin (Cmd.request c) (1 : Int) (1000000000 : Int)) with h2 | h2
      · 
        have e : may c = false := by simp only [may, h0, h1, h2, cond]
        rw [e]
        exact way mayCf (may_w2 c) (conds_cons h0.symm (conds_cons h1.symm (conds_cons h2.symm conds_nil))) rfl rfl h n
      · 
        rcases Bool.eq_false_or_eq_true (!mWithin (Cmd.at_ c) (0 : Int) (1000000000 : Int)) with h3 | h3
        · 
          have e : may c = false := by simp only [may, h0, h1, h2, h3, cond]
          rw [e]
          exact way mayCf (may_w3 c) (conds_cons h0.symm (conds_cons h1.symm (conds_cons h2.symm (conds_cons h3.symm conds_nil)))) rfl rfl h n
        · 
          rcases Bool.eq_false_or_eq_true (Cmd.kind c == (2 : Int)) with h4 | h4
          · 
            rcases Bool.eq_false_or_eq_true (spotIs (Cmd.spot c)) with h5 | h5
            · 
              rcases Bool.eq_false_or_eq_true (mWithin (Cmd.prio c) (1 : Int) (3 : Int)) with h6 | h6
              · 
                have e : may c = (Cmd.long c == (0 : Int)) := by simp only [may, h0, h1, h2, h3, h4, h5, h6, cond]
                rw [e]
                exact way mayCf (may_w4 c) (conds_cons h0.symm (conds_cons h1.symm (conds_cons h2.symm (conds_cons h3.symm (conds_cons h4.symm (conds_cons h5.symm (conds_cons h6.symm conds_nil))))))) rfl rfl h n
              · 
                have e : may c = false := by simp only [may, h0, h1, h2, h3, h4, h5, h6, cond]
                rw [e]
                exact way mayCf (may_w5 c) (conds_cons h0.symm (conds_cons h1.symm (conds_cons h2.symm (conds_cons h3.symm (conds_cons h4.symm (conds_cons h5.symm (conds_cons h6.symm conds_nil))))))) rfl rfl h n
            · 
              have e : may c = false := by simp only [may, h0, h1, h2, h3, h4, h5, cond]
              rw [e]
              exact way mayCf (may_w6 c) (conds_cons h0.symm (conds_cons h1.symm (conds_cons h2.symm (conds_cons h3.symm (conds_cons h4.symm (conds_cons h5.symm conds_nil)))))) rfl rfl h n
          · 
            rcases Bool.eq_false_or_eq_true (Cmd.kind c == (3 : Int)) with h5 | h5
            · 
              rcases Bool.eq_false_or_eq_true (spotIs (Cmd.spot c)) with h7 | h7
              · 
                rcases Bool.eq_false_or_eq_true (Cmd.prio c == (0 : Int)) with h8 | h8
                · 
                  have e : may c = (Cmd.long c == (0 : Int)) := by simp only [may, h0, h1, h2, h3, h4, h5, h7, h8, cond]
                  rw [e]
                  exact way mayCf (may_w7 c) (conds_cons h0.symm (conds_cons h1.symm (conds_cons h2.symm (conds_cons h3.symm (conds_cons h4.symm (conds_cons h5.symm (conds_cons h5.symm (conds_cons h7.symm (conds_cons h8.symm conds_nil))))))))) rfl rfl h n
                · 
                  have e : may c = false := by simp only [may, h0, h1, h2, h3, h4, h5, h7, h8, cond]
                  rw [e]
                  exact way mayCf (may_w8 c) (conds_cons h0.symm (conds_cons h1.symm (conds_cons h2.symm (conds_cons h3.symm (conds_cons h4.symm (conds_cons h5.symm (conds_cons h5.symm (conds_cons h7.symm (conds_cons h8.symm conds_nil))))))))) rfl rfl h n
              · 
                have e : may c = false := by simp only [may, h0, h1, h2, h3, h4, h5, h7, cond]
                rw [e]
                exact way mayCf (may_w9 c) (conds_cons h0.symm (conds_cons h1.symm (conds_cons h2.symm (conds_cons h3.symm (conds_cons h4.symm (conds_cons h5.symm (conds_cons h5.symm (conds_cons h7.symm conds_nil)))))))) rfl rfl h n
            · 
              rcases Bool.eq_false_or_eq_true (Cmd.kind c == (5 : Int)) with h6 | h6
              · 
                rcases Bool.eq_false_or_eq_true (spotIs (Cmd.spot c)) with h7 | h7
                · 
                  rcases Bool.eq_false_or_eq_true (Cmd.prio c == (0 : Int)) with h8 | h8
                  · 
                    have e : may c = (Cmd.long c == (0 : Int)) := by simp only [may, h0, h1, h2, h3, h4, h5, h6, h7, h8, cond]
                    rw [e]
                    exact way mayCf (may_w10 c) (conds_cons h0.symm (conds_cons h1.symm (conds_cons h2.symm (conds_cons h3.symm (conds_cons h4.symm (conds_cons h5.symm (conds_cons h6.symm (conds_cons h7.symm (conds_cons h8.symm conds_nil))))))))) rfl rfl h n
                  · 
                    have e : may c = false := by simp only [may, h0, h1, h2, h3, h4, h5, h6, h7, h8, cond]
                    rw [e]
                    exact way mayCf (may_w11 c) (conds_cons h0.symm (conds_cons h1.symm (conds_cons h2.symm (conds_cons h3.symm (conds_cons h4.symm (conds_cons h5.symm (conds_cons h6.symm (conds_cons h7.symm (conds_cons h8.symm conds_nil))))))))) rfl rfl h n
                · 
                  have e : may c = false := by simp only [may, h0, h1, h2, h3, h4, h5, h6, h7, cond]
                  rw [e]
                  exact way mayCf (may_w12 c) (conds_cons h0.symm (conds_cons h1.symm (conds_cons h2.symm (conds_cons h3.symm (conds_cons h4.symm (conds_cons h5.symm (conds_cons h6.symm (conds_cons h7.symm conds_nil)))))))) rfl rfl h n
              · 
                rcases Bool.eq_false_or_eq_true (Cmd.kind c == (4 : Int)) with h7 | h7
                · 
                  rcases Bool.eq_false_or_eq_true (spotIs (Cmd.spot c)) with h8 | h8
                  · 
                    rcases Bool.eq_false_or_eq_true (Cmd.prio c == (0 : Int)) with h9 | h9
                    · 
                      have e : may c = (mWithin (Cmd.long c) (1 : Int) (1000 : Int)) := by simp only [may, h0, h1, h2, h3, h4, h5, h6, h7, h8, h9, cond]
                      rw [e]
                      exact way mayCf (may_w13 c) (conds_cons h0.symm (conds_cons h1.symm (conds_cons h2.symm (conds_cons h3.symm (conds_cons h4.symm (conds_cons h5.symm (conds_cons h6.symm (conds_cons h7.symm (conds_cons h8.symm (conds_cons h9.symm conds_nil)))))))))) rfl rfl h n
                    · 
                      have e : may c = false := by simp only [may, h0, h1, h2, h3, h4, h5, h6, h7, h8, h9, cond]
                      rw [e]
                      exact way mayCf (may_w14 c) (conds_cons h0.symm (conds_cons h1.symm (conds_cons h2.symm (conds_cons h3.symm (conds_cons h4.symm (conds_cons h5.symm (conds_cons h6.symm (conds_cons h7.symm (conds_cons h8.symm (conds_cons h9.symm conds_nil)))))))))) rfl rfl h n
                  · 
                    have e : may c = false := by simp only [may, h0, h1, h2, h3, h4, h5, h6, h7, h8, cond]
                    rw [e]
                    exact way mayCf (may_w15 c) (conds_cons h0.symm (conds_cons h1.symm (conds_cons h2.symm (conds_cons h3.symm (conds_cons h4.symm (conds_cons h5.symm (conds_cons h6.symm (conds_cons h7.symm (conds_cons h8.symm conds_nil))))))))) rfl rfl h n
                · 
                  rcases Bool.eq_false_or_eq_true (Cmd.kind c == (6 : Int)) with h8 | h8
                  · 
                    rcases Bool.eq_false_or_eq_true (spotIs (Cmd.spot c)) with h10 | h10
                    · 
                      rcases Bool.eq_false_or_eq_true (Spot.channel (Cmd.spot c) == (0 : Int)) with h11 | h11
                      · 
                        rcases Bool.eq_false_or_eq_true (Cmd.prio c == (0 : Int)) with h12 | h12
                        · 
                          have e : may c = (mWithin (Cmd.long c) (1 : Int) (1000 : Int)) := by simp only [may, h0, h1, h2, h3, h4, h5, h6, h7, h8, h10, h11, h12, cond]
                          rw [e]
                          exact way mayCf (may_w16 c) (conds_cons h0.symm (conds_cons h1.symm (conds_cons h2.symm (conds_cons h3.symm (conds_cons h4.symm (conds_cons h5.symm (conds_cons h6.symm (conds_cons h7.symm (conds_cons h8.symm (conds_cons h8.symm (conds_cons h10.symm (conds_cons h11.symm (conds_cons h12.symm conds_nil))))))))))))) rfl rfl h n
                        · 
                          have e : may c = false := by simp only [may, h0, h1, h2, h3, h4, h5, h6, h7, h8, h10, h11, h12, cond]
                          rw [e]
                          exact way mayCf (may_w17 c) (conds_cons h0.symm (conds_cons h1.symm (conds_cons h2.symm (conds_cons h3.symm (conds_cons h4.symm (conds_cons h5.symm (conds_cons h6.symm (conds_cons h7.symm (conds_cons h8.symm (conds_cons h8.symm (conds_cons h10.symm (conds_cons h11.symm (conds_cons h12.symm conds_nil))))))))))))) rfl rfl h n
                      · 
                        have e : may c = false := by simp only [may, h0, h1, h2, h3, h4, h5, h6, h7, h8, h10, h11, cond]
                        rw [e]
                        exact way mayCf (may_w18 c) (conds_cons h0.symm (conds_cons h1.symm (conds_cons h2.symm (conds_cons h3.symm (conds_cons h4.symm (conds_cons h5.symm (conds_cons h6.symm (conds_cons h7.symm (conds_cons h8.symm (conds_cons h8.symm (conds_cons h10.symm (conds_cons h11.symm conds_nil)))))))))))) rfl rfl h n
                    · 
                      have e : may c = false := by simp only [may, h0, h1, h2, h3, h4, h5, h6, h7, h8, h10, cond]
                      rw [e]
                      exact way mayCf (may_w19 c) (conds_cons h0.symm (conds_cons h1.symm (conds_cons h2.symm (conds_cons h3.symm (conds_cons h4.symm (conds_cons h5.symm (conds_cons h6.symm (conds_cons h7.symm (conds_cons h8.symm (conds_cons h8.symm (conds_cons h10.symm conds_nil))))))))))) rfl rfl h n
                  · 
                    rcases Bool.eq_false_or_eq_true (Cmd.kind c == (7 : Int)) with h9 | h9
                    · 
                      rcases Bool.eq_false_or_eq_true (spotIs (Cmd.spot c)) with h10 | h10
                      · 
                        rcases Bool.eq_false_or_eq_true (Spot.channel (Cmd.spot c) == (0 : Int)) with h11 | h11
                        · 
                          rcases Bool.eq_false_or_eq_true (Cmd.prio c == (0 : Int)) with h12 | h12
                          · 
                            have e : may c = (mWithin (Cmd.long c) (1 : Int) (1000 : Int)) := by simp only [may, h0, h1, h2, h3, h4, h5, h6, h7, h8, h9, h10, h11, h12, cond]
                            rw [e]
                            exact way mayCf (may_w20 c) (conds_cons h0.symm (conds_cons h1.symm (conds_cons h2.symm (conds_cons h3.symm (conds_cons h4.symm (conds_cons h5.symm (conds_cons h6.symm (conds_cons h7.symm (conds_cons h8.symm (conds_cons h9.symm (conds_cons h10.symm (conds_cons h11.symm (conds_cons h12.symm conds_nil))))))))))))) rfl rfl h n
                          · 
                            have e : may c = false := by simp only [may, h0, h1, h2, h3, h4, h5, h6, h7, h8, h9, h10, h11, h12, cond]
                            rw [e]
                            exact way mayCf (may_w21 c) (conds_cons h0.symm (conds_cons h1.symm (conds_cons h2.symm (conds_cons h3.symm (conds_cons h4.symm (conds_cons h5.symm (conds_cons h6.symm (conds_cons h7.symm (conds_cons h8.symm (conds_cons h9.symm (conds_cons h10.symm (conds_cons h11.symm (conds_cons h12.symm conds_nil))))))))))))) rfl rfl h n
                        · 
                          have e : may c = false := by simp only [may, h0, h1, h2, h3, h4, h5, h6, h7, h8, h9, h10, h11, cond]
                          rw [e]
                          exact way mayCf (may_w22 c) (conds_cons h0.symm (conds_cons h1.symm (conds_cons h2.symm (conds_cons h3.symm (conds_cons h4.symm (conds_cons h5.symm (conds_cons h6.symm (conds_cons h7.symm (conds_cons h8.symm (conds_cons h9.symm (conds_cons h10.symm (conds_cons h11.symm conds_nil)))))))))))) rfl rfl h n
                      · 
                        have e : may c = false := by simp only [may, h0, h1, h2, h3, h4, h5, h6, h7, h8, h9, h10, cond]
                        rw [e]
                        exact way mayCf (may_w23 c) (conds_cons h0.symm (conds_cons h1.symm (conds_cons h2.symm (conds_cons h3.symm (conds_cons h4.symm (conds_cons h5.symm (conds_cons h6.symm (conds_cons h7.symm (conds_cons h8.symm (conds_cons h9.symm (conds_cons h10.symm conds_nil))))))))))) rfl rfl h n
                    · 
                      rcases Bool.eq_false_or_eq_true (Cmd.kind c == (8 : Int)) with h10 | h10
                      · 
                        rcases Bool.eq_false_or_eq_true (Spot.bed (Cmd.spot c) == (0 : Int) && Spot.channel (Cmd.spot c) == (0 : Int)) with h11 | h11
                        · 
                          rcases Bool.eq_false_or_eq_true (Cmd.prio c == (0 : Int)) with h12 | h12
                          · 
                            have e : may c = (mWithin (Cmd.long c) (1 : Int) (20 : Int)) := by simp only [may, h0, h1, h2, h3, h4, h5, h6, h7, h8, h9, h10, h11, h12, cond]
                            rw [e]
                            exact way mayCf (may_w24 c) (conds_cons h0.symm (conds_cons h1.symm (conds_cons h2.symm (conds_cons h3.symm (conds_cons h4.symm (conds_cons h5.symm (conds_cons h6.symm (conds_cons h7.symm (conds_cons h8.symm (conds_cons h9.symm (conds_cons h10.symm (conds_cons h11.symm (conds_cons h12.symm conds_nil))))))))))))) rfl rfl h n
                          · 
                            have e : may c = false := by simp only [may, h0, h1, h2, h3, h4, h5, h6, h7, h8, h9, h10, h11, h12, cond]
                            rw [e]
                            exact way mayCf (may_w25 c) (conds_cons h0.symm (conds_cons h1.symm (conds_cons h2.symm (conds_cons h3.symm (conds_cons h4.symm (conds_cons h5.symm (conds_cons h6.symm (conds_cons h7.symm (conds_cons h8.symm (conds_cons h9.symm (conds_cons h10.symm (conds_cons h11.symm (conds_cons h12.symm conds_nil))))))))))))) rfl rfl h n
                        · 
                          have e : may c = false := by simp only [may, h0, h1, h2, h3, h4, h5, h6, h7, h8, h9, h10, h11, cond]
                          rw [e]
                          exact way mayCf (may_w26 c) (conds_cons h0.symm (conds_cons h1.symm (conds_cons h2.symm (conds_cons h3.symm (conds_cons h4.symm (conds_cons h5.symm (conds_cons h6.symm (conds_cons h7.symm (conds_cons h8.symm (conds_cons h9.symm (conds_cons h10.symm (conds_cons h11.symm conds_nil)))))))))))) rfl rfl h n
                      · 
                        rcases Bool.eq_false_or_eq_true (Cmd.kind c == (9 : Int)) with h11 | h11
                        · 
                          rcases Bool.eq_false_or_eq_true (Spot.bed (Cmd.spot c) == (0 : Int) && Spot.channel (Cmd.spot c) == (0 : Int)) with h12 | h12
                          · 
                            rcases Bool.eq_false_or_eq_true (Cmd.prio c == (0 : Int)) with h13 | h13
                            · 
                              have e : may c = (Cmd.long c == (0 : Int)) := by simp only [may, h0, h1, h2, h3, h4, h5, h6, h7, h8, h9, h10, h11, h12, h13, cond]
                              rw [e]
                              exact way mayCf (may_w27 c) (conds_cons h0.symm (conds_cons h1.symm (conds_cons h2.symm (conds_cons h3.symm (conds_cons h4.symm (conds_cons h5.symm (conds_cons h6.symm (conds_cons h7.symm (conds_cons h8.symm (conds_cons h9.symm (conds_cons h10.symm (conds_cons h11.symm (conds_cons h12.symm (conds_cons h13.symm conds_nil)))))))))))))) rfl rfl h n
                            · 
                              have e : may c = false := by simp only [may, h0, h1, h2, h3, h4, h5, h6, h7, h8, h9, h10, h11, h12, h13, cond]
                              rw [e]
                              exact way mayCf (may_w28 c) (conds_cons h0.symm (conds_cons h1.symm (conds_cons h2.symm (conds_cons h3.symm (conds_cons h4.symm (conds_cons h5.symm (conds_cons h6.symm (conds_cons h7.symm (conds_cons h8.symm (conds_cons h9.symm (conds_cons h10.symm (conds_cons h11.symm (conds_cons h12.symm (conds_cons h13.symm conds_nil)))))))))))))) rfl rfl h n
                          · 
                            have e : may c = false := by simp only [may, h0, h1, h2, h3, h4, h5, h6, h7, h8, h9, h10, h11, h12, cond]
                            rw [e]
                            exact way mayCf (may_w29 c) (conds_cons h0.symm (conds_cons h1.symm (conds_cons h2.symm (conds_cons h3.symm (conds_cons h4.symm (conds_cons h5.symm (conds_cons h6.symm (conds_cons h7.symm (conds_cons h8.symm (conds_cons h9.symm (conds_cons h10.symm (conds_cons h11.symm (conds_cons h12.symm conds_nil))))))))))))) rfl rfl h n
                        · 
                          have e : may c = false := by simp only [may, h0, h1, h2, h3, h4, h5, h6, h7, h8, h9, h10, h11, cond]
                          rw [e]
                          exact way mayCf (may_w30 c) (conds_cons h0.symm (conds_cons h1.symm (conds_cons h2.symm (conds_cons h3.symm (conds_cons h4.symm (conds_cons h5.symm (conds_cons h6.symm (conds_cons h7.symm (conds_cons h8.symm (conds_cons h9.symm (conds_cons h10.symm (conds_cons h11.symm conds_nil)))))))))))) rfl rfl h n
def conmay : Con := (41, fun l => match l with
  | [x0] => (match Cmd.of x0 with | some s0 => some (.bool (may s0)) | none => none)
  | _ => none)
theorem conmay_ok : ConOk Try.prog conmay := by
  intro l v e h n
  simp only [conmay] at e
  split at e
  · skip
    split at e
    · rename_i s0 es0
      cases e
      cases Cmd.of_eq es0
      exact may_ok _ h n
    · cases e
  · cases e

def rMay (c : Cmd) : Bool :=
  bif (Cmd.kind c == (1 : Int)) then ((Cmd.session c == (0 : Int) && (Cmd.request c == (0 : Int) && (Cmd.kind c == (1 : Int) && (Spot.bed (Cmd.spot c) == (0 : Int) && Spot.channel (Cmd.spot c) == (0 : Int) && (Cmd.prio c == (0 : Int) && (Cmd.at_ c == (0 : Int) && Cmd.long c == (0 : Int))))))))
  else (bif (!r19in (Cmd.session c) (1 : Int) (1000000000 : Int)) then false
    else (bif (!r19in (Cmd.request c) (1 : Int) (1000000000 : Int)) then false
      else (bif (!r19in (Cmd.at_ c) (0 : Int) (1000000000 : Int)) then false
        else (bif (Cmd.kind c == (2 : Int)) then (bif (r04Is (Cmd.spot c)) then (bif (r19in (Cmd.prio c) (1 : Int) (3 : Int)) then ((Cmd.long c == (0 : Int)))
              else false)
            else false)
          else (bif (Cmd.kind c == (3 : Int)) then (bif (r04Is (Cmd.spot c)) then (bif (Cmd.prio c == (0 : Int)) then ((Cmd.long c == (0 : Int)))
                else false)
              else false)
            else (bif (Cmd.kind c == (5 : Int)) then (bif (r04Is (Cmd.spot c)) then (bif (Cmd.prio c == (0 : Int)) then ((Cmd.long c == (0 : Int)))
                  else false)
                else false)
              else (bif (Cmd.kind c == (4 : Int)) then (bif (r04Is (Cmd.spot c)) then (bif (Cmd.prio c == (0 : Int)) then ((r19in (Cmd.long c) (1 : Int) (1000 : Int)))
                    else false)
                  else false)
                else (bif (Cmd.kind c == (6 : Int)) then (bif (r19in (Spot.bed (Cmd.spot c)) (1 : Int) (99 : Int)) then (bif (Spot.channel (Cmd.spot c) == (0 : Int)) then (bif (Cmd.prio c == (0 : Int)) then ((r19in (Cmd.long c) (1 : Int) (1000 : Int)))
                        else false)
                      else false)
                    else false)
                  else (bif (Cmd.kind c == (7 : Int)) then (bif (r19in (Spot.bed (Cmd.spot c)) (1 : Int) (99 : Int)) then (bif (Spot.channel (Cmd.spot c) == (0 : Int)) then (bif (Cmd.prio c == (0 : Int)) then ((r19in (Cmd.long c) (1 : Int) (1000 : Int)))
                          else false)
                        else false)
                      else false)
                    else (bif (Cmd.kind c == (8 : Int)) then (bif (Spot.bed (Cmd.spot c) == (0 : Int) && Spot.channel (Cmd.spot c) == (0 : Int)) then (bif (Cmd.prio c == (0 : Int)) then ((r19in (Cmd.long c) (1 : Int) (20 : Int)))
                          else false)
                        else false)
                      else (bif (Cmd.kind c == (9 : Int)) then (bif (Spot.bed (Cmd.spot c) == (0 : Int) && Spot.channel (Cmd.spot c) == (0 : Int)) then (bif (Cmd.prio c == (0 : Int)) then ((Cmd.long c == (0 : Int)))
                            else false)
                          else false)
                        else false)))))))))))
theorem rMayCf : CfOk Try.prog (runG Try.prog (conΔ [conr19in, conr04Is]) 60 12) := runG_ok noNum mixed (conΔ_ok (List.forall_mem_cons.2 ⟨conr19in_ok, List.forall_mem_cons.2 ⟨conr04Is_ok, List.forall_mem_nil _⟩⟩)) _
theorem rMay_w0 (c : Cmd) : resOf (runG Try.prog (conΔ [conr19in, conr04Is]) 60 12 42 [.agg (Cmd.cells c)] [] 0 [.go 0 true]) = some (.ret (.bool (Cmd.session c == (0 : Int) && (Cmd.request c == (0 : Int) && (Cmd.kind c == (1 : Int) && (Spot.bed (Cmd.spot c) == (0 : Int) && Spot.channel (Cmd.spot c) == (0 : Int) && (Cmd.prio c == (0 : Int) && (Cmd.at_ c == (0 : Int) && Cmd.long c == (0 : Int)))))))), [(true, (Cmd.kind c == (1 : Int)))]) := by kernel_rfl
theorem rMay_w1 (c : Cmd) : resOf (runG Try.prog (conΔ [conr19in, conr04Is]) 60 12 42 [.agg (Cmd.cells c)] [] 0 [.go 0 false, .go 0 true]) = some (.ret (.bool false), [(false, (Cmd.kind c == (1 : Int))), (true, (!r19in (Cmd.session c) (1 : Int) (1000000000 : Int)))]) := by kernel_rfl
theorem rMay_w2 (c : Cmd) : resOf (runG Try.prog (conΔ [conr19in, conr04Is]) 60 12 42 [.agg (Cmd.cells c)] [] 0 [.go 0 false, .go 0 false, .go 0 true]) = some (.ret (.bool false), [(false, (Cmd.kind c == (1 : Int))), (false, (!r19in (Cmd.session c) (1 : Int) (1000000000 : Int))), (true, (!r19in (Cmd.request c) (1 : Int) (1000000000 : Int)))]) := by kernel_rfl
theorem rMay_w3 (c : Cmd) : resOf (runG Try.prog (conΔ [conr19in, conr04Is]) 60 12 42 [.agg (Cmd.cells c)] [] 0 [.go 0 false, .go 0 false, .go 0 false, .go 0 true]) = some (.ret (.bool false), [(false, (Cmd.kind c == (1 : Int))), (false, (!r19in (Cmd.session c) (1 : Int) (1000000000 : Int))), (false, (!r19in (Cmd.request c) (1 : Int) (1000000000 : Int))), (true, (!r19in (Cmd.at_ c) (0 : Int) (1000000000 : Int)))]) := by kernel_rfl
theorem rMay_w4 (c : Cmd) : resOf (runG Try.prog (conΔ [conr19in, conr04Is]) 60 12 42 [.agg (Cmd.cells c)] [] 0 [.go 0 false, .go 0 false, .go 0 false, .go 0 false, .go 0 true, .go 0 true, .go 0 true]) = some (.ret (.bool (Cmd.long c == (0 : Int))), [(false, (Cmd.kind c == (1 : Int))), (false, (!r19in (Cmd.session c) (1 : Int) (1000000000 : Int))), (false, (!r19in (Cmd.request c) (1 : Int) (1000000000 : Int))), (false, (!r19in (Cmd.at_ c) (0 : Int) (1000000000 : Int))), (true, (Cmd.kind c == (2 : Int))), (true, (r04Is (Cmd.spot c))), (true, (r19in (Cmd.prio c) (1 : Int) (3 : Int)))]) := by kernel_rfl
theorem rMay_w5 (c : Cmd) : resOf (runG Try.prog (conΔ [conr19in, conr04Is]) 60 12 42 [.agg (Cmd.cells c)] [] 0 [.go 0 false, .go 0 false, .go 0 false, .go 0 false, .go 0 true, .go 0 true, .go 0 false]) = some (.ret (.bool false), [(false, (Cmd.kind c == (1 : Int))), (false, (!r19in (Cmd.session c) (1 : Int) (1000000000 : Int))), (false, (!r19in (Cmd.request c) (1 : Int) (1000000000 : Int))), (false, (!r19in (Cmd.at_ c) (0 : Int) (1000000000 : Int))), (true, (Cmd.kind c == (2 : Int))), (true, (r04Is (Cmd.spot c))), (false, (r19in (Cmd.prio c) (1 : Int) (3 : Int)))]) := by kernel_rfl
theorem rMay_w6 (c : Cmd) : resOf (runG Try.prog (conΔ [conr19in, conr04Is]) 60 12 42 [.agg (Cmd.cells c)] [] 0 [.go 0 false, .go 0 false, .go 0 false, .go 0 false, .go 0 true, .go 0 false]) = some (.ret (.bool false), [(false, (Cmd.kind c == (1 : Int))), (false, (!r19in (Cmd.session c) (1 : Int) (1000000000 : Int))), (false, (!r19in (Cmd.request c) (1 : Int) (1000000000 : Int))), (false, (!r19in (Cmd.at_ c) (0 : Int) (1000000000 : Int))), (true, (Cmd.kind c == (2 : Int))), (false, (r04Is (Cmd.spot c)))]) := by kernel_rfl
theorem rMay_w7 (c : Cmd) : resOf (runG Try.prog (conΔ [conr19in, conr04Is]) 60 12 42 [.agg (Cmd.cells c)] [] 0 [.go 0 false, .go 0 false, .go 0 false, .go 0 false, .go 0 false, .go 0 true, .go 0 true, .go 0 true, .go 0 true]) = some (.ret (.bool (Cmd.long c == (0 : Int))), [(false, (Cmd.kind c == (1 : Int))), (false, (!r19in (Cmd.session c) (1 : Int) (1000000000 : Int))), (false, (!r19in (Cmd.request c) (1 : Int) (1000000000 : Int))), (false, (!r19in (Cmd.at_ c) (0 : Int) (1000000000 : Int))), (false, (Cmd.kind c == (2 : Int))), (true, (Cmd.kind c == (3 : Int))), (true, (Cmd.kind c == (3 : Int))), (true, (r04Is (Cmd.spot c))), (true, (Cmd.prio c == (0 : Int)))]) := by kernel_rfl
theorem rMay_w8 (c : Cmd) : resOf (runG Try.prog (conΔ [conr19in, conr04Is]) 60 12 42 [.agg (Cmd.cells c)] [] 0 [.go 0 false, .go 0 false, .go 0 false, .go 0 false, .go 0 false, .go 0 true, .go 0 true, .go 0 true, .go 0 false]) = some (.ret (.bool false), [(false, (Cmd.kind c == (1 : Int))), (false, (!r19in (Cmd.session c) (1 : Int) (1000000000 : Int))), (false, (!r19in (Cmd.request c) (1 : Int) (1000000000 : Int))), (false, (!r19in (Cmd.at_ c) (0 : Int) (1000000000 : Int))), (false, (Cmd.kind c == (2 : Int))), (true, (Cmd.kind c == (3 : Int))), (true, (Cmd.kind c == (3 : Int))), (true, (r04Is (Cmd.spot c))), (false, (Cmd.prio c == (0 : Int)))]) := by kernel_rfl
theorem rMay_w9 (c : Cmd) : resOf (runG Try.prog (conΔ [conr19in, conr04Is]) 60 12 42 [.agg (Cmd.cells c)] [] 0 [.go 0 false, .go 0 false, .go 0 false, .go 0 false, .go 0 false, .go 0 true, .go 0 true, .go 0 false]) = some (.ret (.bool false), [(false, (Cmd.kind c == (1 : Int))), (false, (!r19in (Cmd.session c) (1 : Int) (1000000000 : Int))), (false, (!r19in (Cmd.request c) (1 : Int) (1000000000 : Int))), (false, (!r19in (Cmd.at_ c) (0 : Int) (1000000000 : Int))), (false, (Cmd.kind c == (2 : Int))), (true, (Cmd.kind c == (3 : Int))), (true, (Cmd.kind c == (3 : Int))), (false, (r04Is (Cmd.spot c)))]) := by kernel_rfl
theorem rMay_w10 (c : Cmd) : resOf (runG Try.prog (conΔ [conr19in, conr04Is]) 60 12 42 [.agg (Cmd.cells c)] [] 0 [.go 0 false, .go 0 false, .go 0 false, .go 0 false, .go 0 false, .go 0 false, .go 0 true, .go 0 true, .go 0 true]) = some (.ret (.bool (Cmd.long c == (0 : Int))), [(false, (Cmd.kind c == (1 : Int))), (false, (!r19in (Cmd.session c) (1 : Int) (1000000000 : Int))), (false, (!r19in (Cmd.request c) (1 : Int) (1000000000 : Int))), (false, (!r19in (Cmd.at_ c) (0 : Int) (1000000000 : Int))), (false, (Cmd.kind c == (2 : Int))), (false, (Cmd.kind c == (3 : Int))), (true, (Cmd.kind c == (5 : Int))), (true, (r04Is (Cmd.spot c))), (true, (Cmd.prio c == (0 : Int)))]) := by kernel_rfl
theorem rMay_w11 (c : Cmd) : resOf (runG Try.prog (conΔ [conr19in, conr04Is]) 60 12 42 [.agg (Cmd.cells c)] [] 0 [.go 0 false, .go 0 false, .go 0 false, .go 0 false, .go 0 false, .go 0 false, .go 0 true, .go 0 true, .go 0 false]) = some (.ret (.bool false), [(false, (Cmd.kind c == (1 : Int))), (false, (!r19in (Cmd.session c) (1 : Int) (1000000000 : Int))), (false, (!r19in (Cmd.request c) (1 : Int) (1000000000 : Int))), (false, (!r19in (Cmd.at_ c) (0 : Int) (1000000000 : Int))), (false, (Cmd.kind c == (2 : Int))), (false, (Cmd.kind c == (3 : Int))), (true, (Cmd.kind c == (5 : Int))), (true, (r04Is (Cmd.spot c))), (false, (Cmd.prio c == (0 : Int)))]) := by kernel_rfl
theorem rMay_w12 (c : Cmd) : resOf (runG Try.prog (conΔ [conr19in, conr04Is]) 60 12 42 [.agg (Cmd.cells c)] [] 0 [.go 0 false, .go 0 false, .go 0 false, .go 0 false, .go 0 false, .go 0 false, .go 0 true, .go 0 false]) = some (.ret (.bool false), [(false, (Cmd.kind c == (1 : Int))), (false, (!r19in (Cmd.session c) (1 : Int) (1000000000 : Int))), (false, (!r19in (Cmd.request c) (1 : Int) (1000000000 : Int))), (false, (!r19in (Cmd.at_ c) (0 : Int) (1000000000 : Int))), (false, (Cmd.kind c == (2 : Int))), (false, (Cmd.kind c == (3 : Int))), (true, (Cmd.kind c == (5 : Int))), (false, (r04Is (Cmd.spot c)))]) := by kernel_rfl
theorem rMay_w13 (c : Cmd) : resOf (runG Try.prog (conΔ [conr19in, conr04Is]) 60 12 42 [.agg (Cmd.cells c)] [] 0 [.go 0 false, .go 0 false, .go 0 false, .go 0 false, .go 0 false, .go 0 false, .go 0 false, .go 0 true, .go 0 true, .go 0 true]) = some (.ret (.bool (r19in (Cmd.long c) (1 : Int) (1000 : Int))), [(false, (Cmd.kind c == (1 : Int))), (false, (!r19in (Cmd.session c) (1 : Int) (1000000000 : Int))), (false, (!r19in (Cmd.request c) (1 : Int) (1000000000 : Int))), (false, (!r19in (Cmd.at_ c) (0 : Int) (1000000000 : Int))), (false, (Cmd.kind c == (2 : Int))), (false, (Cmd.kind c == (3 : Int))), (false, (Cmd.kind c == (5 : Int))), (true, (Cmd.kind c == (4 : Int))), (true, (r04Is (Cmd.spot c))), (true, (Cmd.prio c == (0 : Int)))]) := by kernel_rfl
theorem rMay_w14 (c : Cmd) : resOf (runG Try.prog (conΔ [conr19in, conr04Is]) 60 12 42 [.agg (Cmd.cells c)] [] 0 [.go 0 false, .go 0 false, .go 0 false, .go 0 false, .go 0 false, .go 0 false, .go 0 false, .go 0 true, .go 0 true, .go 0 false]) = some (.ret (.bool false), [(false, (Cmd.kind c == (1 : Int))), (false, (!r19in (Cmd.session c) (1 : Int) (1000000000 : Int))), (false, (!r19in (Cmd.request c) (1 : Int) (1000000000 : Int))), (false, (!r19in (Cmd.at_ c) (0 : Int) (1000000000 : Int))), (false, (Cmd.kind c == (2 : Int))), (false, (Cmd.kind c == (3 : Int))), (false, (Cmd.kind c == (5 : Int))), (true, (Cmd.kind c == (4 : Int))), (true, (r04Is (Cmd.spot c))), (false, (Cmd.prio c == (0 : Int)))]) := by kernel_rfl
theorem rMay_w15 (c : Cmd) : resOf (runG Try.prog (conΔ [conr19in, conr04Is]) 60 12 42 [.agg (Cmd.cells c)] [] 0 [.go 0 false, .go 0 false, .go 0 false, .go 0 false, .go 0 false, .go 0 false, .go 0 false, .go 0 true, .go 0 false]) = some (.ret (.bool false), [(false, (Cmd.kind c == (1 : Int))), (false, (!r19in (Cmd.session c) (1 : Int) (1000000000 : Int))), (false, (!r19in (Cmd.request c) (1 : Int) (1000000000 : Int))), (false, (!r19in (Cmd.at_ c) (0 : Int) (1000000000 : Int))), (false, (Cmd.kind c == (2 : Int))), (false, (Cmd.kind c == (3 : Int))), (false, (Cmd.kind c == (5 : Int))), (true, (Cmd.kind c == (4 : Int))), (false, (r04Is (Cmd.spot c)))]) := by kernel_rfl
theorem rMay_w16 (c : Cmd) : resOf (runG Try.prog (conΔ [conr19in, conr04Is]) 60 12 42 [.agg (Cmd.cells c)] [] 0 [.go 0 false, .go 0 false, .go 0 false, .go 0 false, .go 0 false, .go 0 false, .go 0 false, .go 0 false, .go 0 true, .go 0 true, .go 0 true, .go 0 true, .go 0 true]) = some (.ret (.bool (r19in (Cmd.long c) (1 : Int) (1000 : Int))), [(false, (Cmd.kind c == (1 : Int))), (false, (!r19in (Cmd.session c) (1 : Int) (1000000000 : Int))), (false, (!r19in (Cmd.request c) (1 : Int) (1000000000 : Int))), (false, (!r19in (Cmd.at_ c) (0 : Int) (1000000000 : Int))), (false, (Cmd.kind c == (2 : Int))), (false, (Cmd.kind c == (3 : Int))), (false, (Cmd.kind c == (5 : Int))), (false, (Cmd.kind c == (4 : Int))), (true, (Cmd.kind c == (6 : Int))), (true, (Cmd.kind c == (6 : Int))), (true, (r19in (Spot.bed (Cmd.spot c)) (1 : Int) (99 : Int))), (true, (Spot.channel (Cmd.spot c) == (0 : Int))), (true, (Cmd.prio c == (0 : Int)))]) := by kernel_rfl
theorem rMay_w17 (c : Cmd) : resOf (runG Try.prog (conΔ [conr19in, conr04Is]) 60 12 42 [.agg (Cmd.cells c)] [] 0 [.go 0 false, .go 0 false, .go 0 false, .go 0 false, .go 0 false, .go 0 false, .go 0 false, .go 0 false, .go 0 true, .go 0 true, .go 0 true, .go 0 true, .go 0 false]) = some (.ret (.bool false), [(false, (Cmd.kind c == (1 : Int))), (false, (!r19in (Cmd.session c) (1 : Int) (1000000000 : Int))), (false, (!r19in (Cmd.request c) (1 : Int) (1000000000 : Int))), (false, (!r19in (Cmd.at_ c) (0 : Int) (1000000000 : Int))), (false, (Cmd.kind c == (2 : Int))), (false, (Cmd.kind c == (3 : Int))), (false, (Cmd.kind c == (5 : Int))), (false, (Cmd.kind c == (4 : Int))), (true, (Cmd.kind c == (6 : Int))), (true, (Cmd.kind c == (6 : Int))), (true, (r19in (Spot.bed (Cmd.spot c)) (1 : Int) (99 : Int))), (true, (Spot.channel (Cmd.spot c) == (0 : Int))), (false, (Cmd.prio c == (0 : Int)))]) := by kernel_rfl
theorem rMay_w18 (c : Cmd) : resOf (runG Try.prog (conΔ [conr19in, conr04Is]) 60 12 42 [.agg (Cmd.cells c)] [] 0 [.go 0 false, .go 0 false, .go 0 false, .go 0 false, .go 0 false, .go 0 false, .go 0 false, .go 0 false, .go 0 true, .go 0 true, .go 0 true, .go 0 false]) = some (.ret (.bool false), [(false, (Cmd.kind c == (1 : Int))), (false, (!r19in (Cmd.session c) (1 : Int) (1000000000 : Int))), (false, (!r19in (Cmd.request c) (1 : Int) (1000000000 : Int))), (false, (!r19in (Cmd.at_ c) (0 : Int) (1000000000 : Int))), (false, (Cmd.kind c == (2 : Int))), (false, (Cmd.kind c == (3 : Int))), (false, (Cmd.kind c == (5 : Int))), (false, (Cmd.kind c == (4 : Int))), (true, (Cmd.kind c == (6 : Int))), (true, (Cmd.kind c == (6 : Int))), (true, (r19in (Spot.bed (Cmd.spot c)) (1 : Int) (99 : Int))), (false, (Spot.channel (Cmd.spot c) == (0 : Int)))]) := by kernel_rfl
theorem rMay_w19 (c : Cmd) : resOf (runG Try.prog (conΔ [conr19in, conr04Is]) 60 12 42 [.agg (Cmd.cells c)] [] 0 [.go 0 false, .go 0 false, .go 0 false, .go 0 false, .go 0 false, .go 0 false, .go 0 false, .go 0 false, .go 0 true, .go 0 true, .go 0 false]) = some (.ret (.bool false), [(false, (Cmd.kind c == (1 : Int))), (false, (!r19in (Cmd.session c) (1 : Int) (1000000000 : Int))), (false, (!r19in (Cmd.request c) (1 : Int) (1000000000 : Int))), (false, (!r19in (Cmd.at_ c) (0 : Int) (1000000000 : Int))), (false, (Cmd.kind c == (2 : Int))), (false, (Cmd.kind c == (3 : Int))), (false, (Cmd.kind c == (5 : Int))), (false, (Cmd.kind c == (4 : Int))), (true, (Cmd.kind c == (6 : Int))), (true, (Cmd.kind c == (6 : Int))), (false, (r19in (Spot.bed (Cmd.spot c)) (1 : Int) (99 : Int)))]) := by kernel_rfl
theorem rMay_w20 (c : Cmd) : resOf (runG Try.prog (conΔ [conr19in, conr04Is]) 60 12 42 [.agg (Cmd.cells c)] [] 0 [.go 0 false, .go 0 false, .go 0 false, .go 0 false, .go 0 false, .go 0 false, .go 0 false, .go 0 false, .go 0 false, .go 0 true, .go 0 true, .go 0 true, .go 0 true]) = some (.ret (.bool (r19in (Cmd.long c) (1 : Int) (1000 : Int))), [(false, (Cmd.kind c == (1 : Int))), (false, (!r19in (Cmd.session c) (1 : Int) (1000000000 : Int))), (false, (!r19in (Cmd.request c) (1 : Int) (1000000000 : Int))), (false, (!r19in (Cmd.at_ c) (0 : Int) (1000000000 : Int))), (false, (Cmd.kind c == (2 : Int))), (false, (Cmd.kind c == (3 : Int))), (false, (Cmd.kind c == (5 : Int))), (false, (Cmd.kind c == (4 : Int))), (false, (Cmd.kind c == (6 : Int))), (true, (Cmd.kind c == (7 : Int))), (true, (r19in (Spot.bed (Cmd.spot c)) (1 : Int) (99 : Int))), (true, (Spot.channel (Cmd.spot c) == (0 : Int))), (true, (Cmd.prio c == (0 : Int)))]) := by kernel_rfl
theorem rMay_w21 (c : Cmd) : resOf (runG Try.prog (conΔ [conr19in, conr04Is]) 60 12 42 [.agg (Cmd.cells c)] [] 0 [.go 0 false, .go 0 false, .go 0 false, .go 0 false, .go 0 false, .go 0 false, .go 0 false, .go 0 false, .go 0 false, .go 0 true, .go 0 true, .go 0 true, .go 0 false]) = some (.ret (.bool false), [(false, (Cmd.kind c == (1 : Int))), (false, (!r19in (Cmd.session c) (1 : Int) (1000000000 : Int))), (false, (!r19in (Cmd.request c) (1 : Int) (1000000000 : Int))), (false, (!r19in (Cmd.at_ c) (0 : Int) (1000000000 : Int))), (false, (Cmd.kind c == (2 : Int))), (false, (Cmd.kind c == (3 : Int))), (false, (Cmd.kind c == (5 : Int))), (false, (Cmd.kind c == (4 : Int))), (false, (Cmd.kind c == (6 : Int))), (true, (Cmd.kind c == (7 : Int))), (true, (r19in (Spot.bed (Cmd.spot c)) (1 : Int) (99 : Int))), (true, (Spot.channel (Cmd.spot c) == (0 : Int))), (false, (Cmd.prio c == (0 : Int)))]) := by kernel_rfl
theorem rMay_w22 (c : Cmd) : resOf (runG Try.prog (conΔ [conr19in, conr04Is]) 60 12 42 [.agg (Cmd.cells c)] [] 0 [.go 0 false, .go 0 false, .go 0 false, .go 0 false, .go 0 false, .go 0 false, .go 0 false, .go 0 false, .go 0 false, .go 0 true, .go 0 true, .go 0 false]) = some (.ret (.bool false), [(false, (Cmd.kind c == (1 : Int))), (false, (!r19in (Cmd.session c) (1 : Int) (1000000000 : Int))), (false, (!r19in (Cmd.request c) (1 : Int) (1000000000 : Int))), (false, (!r19in (Cmd.at_ c) (0 : Int) (1000000000 : Int))), (false, (Cmd.kind c == (2 : Int))), (false, (Cmd.kind c == (3 : Int))), (false, (Cmd.kind c == (5 : Int))), (false, (Cmd.kind c == (4 : Int))), (false, (Cmd.kind c == (6 : Int))), (true, (Cmd.kind c == (7 : Int))), (true, (r19in (Spot.bed (Cmd.spot c)) (1 : Int) (99 : Int))), (false, (Spot.channel (Cmd.spot c) == (0 : Int)))]) := by kernel_rfl
theorem rMay_w23 (c : Cmd) : resOf (runG Try.prog (conΔ [conr19in, conr04Is]) 60 12 42 [.agg (Cmd.cells c)] [] 0 [.go 0 false, .go 0 false, .go 0 false, .go 0 false, .go 0 false, .go 0 false, .go 0 false, .go 0 false, .go 0 false, .go 0 true, .go 0 false]) = some (.ret (.bool false), [(false, (Cmd.kind c == (1 : Int))), (false, (!r19in (Cmd.session c) (1 : Int) (1000000000 : Int))), (false, (!r19in (Cmd.request c) (1 : Int) (1000000000 : Int))), (false, (!r19in (Cmd.at_ c) (0 : Int) (1000000000 : Int))), (false, (Cmd.kind c == (2 : Int))), (false, (Cmd.kind c == (3 : Int))), (false, (Cmd.kind c == (5 : Int))), (false, (Cmd.kind c == (4 : Int))), (false, (Cmd.kind c == (6 : Int))), (true, (Cmd.kind c == (7 : Int))), (false, (r19in (Spot.bed (Cmd.spot c)) (1 : Int) (99 : Int)))]) := by kernel_rfl
theorem rMay_w24 (c : Cmd) : resOf (runG Try.prog (conΔ [conr19in, conr04Is]) 60 12 42 [.agg (Cmd.cells c)] [] 0 [.go 0 false, .go 0 false, .go 0 false, .go 0 false, .go 0 false, .go 0 false, .go 0 false, .go 0 false, .go 0 false, .go 0 false, .go 0 true, .go 0 true, .go 0 true]) = some (.ret (.bool (r19in (Cmd.long c) (1 : Int) (20 : Int))), [(false, (Cmd.kind c == (1 : Int))), (false, (!r19in (Cmd.session c) (1 : Int) (1000000000 : Int))), (false, (!r19in (Cmd.request c) (1 : Int) (1000000000 : Int))), (false, (!r19in (Cmd.at_ c) (0 : Int) (1000000000 : Int))), (false, (Cmd.kind c == (2 : Int))), (false, (Cmd.kind c == (3 : Int))), (false, (Cmd.kind c == (5 : Int))), (false, (Cmd.kind c == (4 : Int))), (false, (Cmd.kind c == (6 : Int))), (false, (Cmd.kind c == (7 : Int))), (true, (Cmd.kind c == (8 : Int))), (true, (Spot.bed (Cmd.spot c) == (0 : Int) && Spot.channel (Cmd.spot c) == (0 : Int))), (true, (Cmd.prio c == (0 : Int)))]) := by kernel_rfl
theorem rMay_w25 (c : Cmd) : resOf (runG Try.prog (conΔ [conr19in, conr04Is]) 60 12 42 [.agg (Cmd.cells c)] [] 0 [.go 0 false, .go 0 false, .go 0 false, .go 0 false, .go 0 false, .go 0 false, .go 0 false, .go 0 false, .go 0 false, .go 0 false, .go 0 true, .go 0 true, .go 0 false]) = some (.ret (.bool false), [(false, (Cmd.kind c == (1 : Int))), (false, (!r19in (Cmd.session c) (1 : Int) (1000000000 : Int))), (false, (!r19in (Cmd.request c) (1 : Int) (1000000000 : Int))), (false, (!r19in (Cmd.at_ c) (0 : Int) (1000000000 : Int))), (false, (Cmd.kind c == (2 : Int))), (false, (Cmd.kind c == (3 : Int))), (false, (Cmd.kind c == (5 : Int))), (false, (Cmd.kind c == (4 : Int))), (false, (Cmd.kind c == (6 : Int))), (false, (Cmd.kind c == (7 : Int))), (true, (Cmd.kind c == (8 : Int))), (true, (Spot.bed (Cmd.spot c) == (0 : Int) && Spot.channel (Cmd.spot c) == (0 : Int))), (false, (Cmd.prio c == (0 : Int)))]) := by kernel_rfl
theorem rMay_w26 (c : Cmd) : resOf (runG Try.prog (conΔ [conr19in, conr04Is]) 60 12 42 [.agg (Cmd.cells c)] [] 0 [.go 0 false, .go 0 false, .go 0 false, .go 0 false, .go 0 false, .go 0 false, .go 0 false, .go 0 false, .go 0 false, .go 0 false, .go 0 true, .go 0 false]) = some (.ret (.bool false), [(false, (Cmd.kind c == (1 : Int))), (false, (!r19in (Cmd.session c) (1 : Int) (1000000000 : Int))), (false, (!r19in (Cmd.request c) (1 : Int) (1000000000 : Int))), (false, (!r19in (Cmd.at_ c) (0 : Int) (1000000000 : Int))), (false, (Cmd.kind c == (2 : Int))), (false, (Cmd.kind c == (3 : Int))), (false, (Cmd.kind c == (5 : Int))), (false, (Cmd.kind c == (4 : Int))), (false, (Cmd.kind c == (6 : Int))), (false, (Cmd.kind c == (7 : Int))), (true, (Cmd.kind c == (8 : Int))), (false, (Spot.bed (Cmd.spot c) == (0 : Int) && Spot.channel (Cmd.spot c) == (0 : Int)))]) := by kernel_rfl
theorem rMay_w27 (c : Cmd) : resOf (runG Try.prog (conΔ [conr19in, conr04Is]) 60 12 42 [.agg (Cmd.cells c)] [] 0 [.go 0 false, .go 0 false, .go 0 false, .go 0 false, .go 0 false, .go 0 false, .go 0 false, .go 0 false, .go 0 false, .go 0 false, .go 0 false, .go 0 true, .go 0 true, .go 0 true]) = some (.ret (.bool (Cmd.long c == (0 : Int))), [(false, (Cmd.kind c == (1 : Int))), (false, (!r19in (Cmd.session c) (1 : Int) (1000000000 : Int))), (false, (!r19in (Cmd.request c) (1 : Int) (1000000000 : Int))), (false, (!r19in (Cmd.at_ c) (0 : Int) (1000000000 : Int))), (false, (Cmd.kind c == (2 : Int))), (false, (Cmd.kind c == (3 : Int))), (false, (Cmd.kind c == (5 : Int))), (false, (Cmd.kind c == (4 : Int))), (false, (Cmd.kind c == (6 : Int))), (false, (Cmd.kind c == (7 : Int))), (false, (Cmd.kind c == (8 : Int))), (true, (Cmd.kind c == (9 : Int))), (true, (Spot.bed (Cmd.spot c) == (0 : Int) && Spot.channel (Cmd.spot c) == (0 : Int))), (true, (Cmd.prio c == (0 : Int)))]) := by kernel_rfl
theorem rMay_w28 (c : Cmd) : resOf (runG Try.prog (conΔ [conr19in, conr04Is]) 60 12 42 [.agg (Cmd.cells c)] [] 0 [.go 0 false, .go 0 false, .go 0 false, .go 0 false, .go 0 false, .go 0 false, .go 0 false, .go 0 false, .go 0 false, .go 0 false, .go 0 false, .go 0 true, .go 0 true, .go 0 false]) = some (.ret (.bool false), [(false, (Cmd.kind c == (1 : Int))), (false, (!r19in (Cmd.session c) (1 : Int) (1000000000 : Int))), (false, (!r19in (Cmd.request c) (1 : Int) (1000000000 : Int))), (false, (!r19in (Cmd.at_ c) (0 : Int) (1000000000 : Int))), (false, (Cmd.kind c == (2 : Int))), (false, (Cmd.kind c == (3 : Int))), (false, (Cmd.kind c == (5 : Int))), (false, (Cmd.kind c == (4 : Int))), (false, (Cmd.kind c == (6 : Int))), (false, (Cmd.kind c == (7 : Int))), (false, (Cmd.kind c == (8 : Int))), (true, (Cmd.kind c == (9 : Int))), (true, (Spot.bed (Cmd.spot c) == (0 : Int) && Spot.channel (Cmd.spot c) == (0 : Int))), (false, (Cmd.prio c == (0 : Int)))]) := by kernel_rfl
theorem rMay_w29 (c : Cmd) : resOf (runG Try.prog (conΔ [conr19in, conr04Is]) 60 12 42 [.agg (Cmd.cells c)] [] 0 [.go 0 false, .go 0 false, .go 0 false, .go 0 false, .go 0 false, .go 0 false, .go 0 false, .go 0 false, .go 0 false, .go 0 false, .go 0 false, .go 0 true, .go 0 false]) = some (.ret (.bool false), [(false, (Cmd.kind c == (1 : Int))), (false, (!r19in (Cmd.session c) (1 : Int) (1000000000 : Int))), (false, (!r19in (Cmd.request c) (1 : Int) (1000000000 : Int))), (false, (!r19in (Cmd.at_ c) (0 : Int) (1000000000 : Int))), (false, (Cmd.kind c == (2 : Int))), (false, (Cmd.kind c == (3 : Int))), (false, (Cmd.kind c == (5 : Int))), (false, (Cmd.kind c == (4 : Int))), (false, (Cmd.kind c == (6 : Int))), (false, (Cmd.kind c == (7 : Int))), (false, (Cmd.kind c == (8 : Int))), (true, (Cmd.kind c == (9 : Int))), (false, (Spot.bed (Cmd.spot c) == (0 : Int) && Spot.channel (Cmd.spot c) == (0 : Int)))]) := by kernel_rfl
theorem rMay_w30 (c : Cmd) : resOf (runG Try.prog (conΔ [conr19in, conr04Is]) 60 12 42 [.agg (Cmd.cells c)] [] 0 [.go 0 false, .go 0 false, .go 0 false, .go 0 false, .go 0 false, .go 0 false, .go 0 false, .go 0 false, .go 0 false, .go 0 false, .go 0 false, .go 0 false]) = some (.ret (.bool false), [(false, (Cmd.kind c == (1 : Int))), (false, (!r19in (Cmd.session c) (1 : Int) (1000000000 : Int))), (false, (!r19in (Cmd.request c) (1 : Int) (1000000000 : Int))), (false, (!r19in (Cmd.at_ c) (0 : Int) (1000000000 : Int))), (false, (Cmd.kind c == (2 : Int))), (false, (Cmd.kind c == (3 : Int))), (false, (Cmd.kind c == (5 : Int))), (false, (Cmd.kind c == (4 : Int))), (false, (Cmd.kind c == (6 : Int))), (false, (Cmd.kind c == (7 : Int))), (false, (Cmd.kind c == (8 : Int))), (false, (Cmd.kind c == (9 : Int)))]) := by kernel_rfl
theorem rMay_ok (c : Cmd)  (h : Heap) (n : Nat) : CallOk Try.prog 42 [.agg (Cmd.cells c)] h n (.ret (.bool (rMay c))) h n := by
  rcases Bool.eq_false_or_eq_true (Cmd.kind c == (1 : Int)) with h0 | h0
  · 
    have e : rMay c = (Cmd.session c == (0 : Int) && (Cmd.request c == (0 : Int) && (Cmd.kind c == (1 : Int) && (Spot.bed (Cmd.spot c) == (0 : Int) && Spot.channel (Cmd.spot c) == (0 : Int) && (Cmd.prio c == (0 : Int) && (Cmd.at_ c == (0 : Int) && Cmd.long c == (0 : Int))))))) := by simp only [rMay, h0, cond]
    rw [e]
    exact way rMayCf (rMay_w0 c) (conds_cons h0.symm conds_nil) rfl rfl h n
  · 
    rcases Bool.eq_false_or_eq_true (!r19in (Cmd.session c) (1 : Int) (1000000000 : Int)) with h1 | h1
    · 
      have e : rMay c = false := by simp only [rMay, h0, h1, cond]
      rw [e]
      exact way rMayCf (rMay_w1 c) (conds_cons h0.symm (conds_cons h1.symm conds_nil)) rfl rfl h n
    · 
      rcases Bool.eq_false_or_eq_true (!r19in (Cmd.request c) (1 : Int) (1000000000 : Int)) with h2 | h2
      · 
        have e : rMay c = false := by simp only [rMay, h0, h1, h2, cond]
        rw [e]
        exact way rMayCf (rMay_w2 c) (conds_cons h0.symm (conds_cons h1.symm (conds_cons h2.symm conds_nil))) rfl rfl h n
      · 
        rcases Bool.eq_false_or_eq_true (!r19in (Cmd.at_ c) (0 : Int) (1000000000 : Int)) with h3 | h3
        · 
          have e : rMay c = false := by simp only [rMay, h0, h1, h2, h3, cond]
          rw [e]
          exact way rMayCf (rMay_w3 c) (conds_cons h0.symm (conds_cons h1.symm (conds_cons h2.symm (conds_cons h3.symm conds_nil)))) rfl rfl h n
        · 
          rcases Bool.eq_false_or_eq_true (Cmd.kind c == (2 : Int)) with h4 | h4
          · 
            rcases Bool.eq_false_or_eq_true (r04Is (Cmd.spot c)) with h5 | h5
            · 
              rcases Bool.eq_false_or_eq_true (r19in (Cmd.prio c) (1 : Int) (3 : Int)) with h6 | h6
              · 
                have e : rMay c = (Cmd.long c == (0 : Int)) := by simp only [rMay, h0, h1, h2, h3, h4, h5, h6, cond]
                rw [e]
                exact way rMayCf (rMay_w4 c) (conds_cons h0.symm (conds_cons h1.symm (conds_cons h2.symm (conds_cons h3.symm (conds_cons h4.symm (conds_cons h5.symm (conds_cons h6.symm conds_nil))))))) rfl rfl h n
              · 
                have e : rMay c = false := by simp only [rMay, h0, h1, h2, h3, h4, h5, h6, cond]
                rw [e]
                exact way rMayCf (rMay_w5 c) (conds_cons h0.symm (conds_cons h1.symm (conds_cons h2.symm (conds_cons h3.symm (conds_cons h4.symm (conds_cons h5.symm (conds_cons h6.symm conds_nil))))))) rfl rfl h n
            · 
              have e : rMay c = false := by simp only [rMay, h0, h1, h2, h3, h4, h5, cond]
              rw [e]
              exact way rMayCf (rMay_w6 c) (conds_cons h0.symm (conds_cons h1.symm (conds_cons h2.symm (conds_cons h3.symm (conds_cons h4.symm (conds_cons h5.symm conds_nil)))))) rfl rfl h n
          · 
            rcases Bool.eq_false_or_eq_true (Cmd.kind c == (3 : Int)) with h5 | h5
            · 
              rcases Bool.eq_false_or_eq_true (r04Is (Cmd.spot c)) with h7 | h7
              · 
                rcases Bool.eq_false_or_eq_true (Cmd.prio c == (0 : Int)) with h8 | h8
                · 
                  have e : rMay c = (Cmd.long c == (0 : Int)) := by simp only [rMay, h0, h1, h2, h3, h4, h5, h7, h8, cond]
                  rw [e]
                  exact way rMayCf (rMay_w7 c) (conds_cons h0.symm (conds_cons h1.symm (conds_cons h2.symm (conds_cons h3.symm (conds_cons h4.symm (conds_cons h5.symm (conds_cons h5.symm (conds_cons h7.symm (conds_cons h8.symm conds_nil))))))))) rfl rfl h n
                · 
                  have e : rMay c = false := by simp only [rMay, h0, h1, h2, h3, h4, h5, h7, h8, cond]
                  rw [e]
                  exact way rMayCf (rMay_w8 c) (conds_cons h0.symm (conds_cons h1.symm (conds_cons h2.symm (conds_cons h3.symm (conds_cons h4.symm (conds_cons h5.symm (conds_cons h5.symm (conds_cons h7.symm (conds_cons h8.symm conds_nil))))))))) rfl rfl h n
              · 
                have e : rMay c = false := by simp only [rMay, h0, h1, h2, h3, h4, h5, h7, cond]
                rw [e]
                exact way rMayCf (rMay_w9 c) (conds_cons h0.symm (conds_cons h1.symm (conds_cons h2.symm (conds_cons h3.symm (conds_cons h4.symm (conds_cons h5.symm (conds_cons h5.symm (conds_cons h7.symm conds_nil)))))))) rfl rfl h n
            · 
              rcases Bool.eq_false_or_eq_true (Cmd.kind c == (5 : Int)) with h6 | h6
              · 
                rcases Bool.eq_false_or_eq_true (r04Is (Cmd.spot c)) with h7 | h7
                · 
                  rcases Bool.eq_false_or_eq_true (Cmd.prio c == (0 : Int)) with h8 | h8
                  · 
                    have e : rMay c = (Cmd.long c == (0 : Int)) := by simp only [rMay, h0, h1, h2, h3, h4, h5, h6, h7, h8, cond]
                    rw [e]
                    exact way rMayCf (rMay_w10 c) (conds_cons h0.symm (conds_cons h1.symm (conds_cons h2.symm (conds_cons h3.symm (conds_cons h4.symm (conds_cons h5.symm (conds_cons h6.symm (conds_cons h7.symm (conds_cons h8.symm conds_nil))))))))) rfl rfl h n
                  · 
                    have e : rMay c = false := by simp only [rMay, h0, h1, h2, h3, h4, h5, h6, h7, h8, cond]
                    rw [e]
                    exact way rMayCf (rMay_w11 c) (conds_cons h0.symm (conds_cons h1.symm (conds_cons h2.symm (conds_cons h3.symm (conds_cons h4.symm (conds_cons h5.symm (conds_cons h6.symm (conds_cons h7.symm (conds_cons h8.symm conds_nil))))))))) rfl rfl h n
                · 
                  have e : rMay c = false := by simp only [rMay, h0, h1, h2, h3, h4, h5, h6, h7, cond]
                  rw [e]
                  exact way rMayCf (rMay_w12 c) (conds_cons h0.symm (conds_cons h1.symm (conds_cons h2.symm (conds_cons h3.symm (conds_cons h4.symm (conds_cons h5.symm (conds_cons h6.symm (conds_cons h7.symm conds_nil)))))))) rfl rfl h n
              · 
                rcases Bool.eq_false_or_eq_true (Cmd.kind c == (4 : Int)) with h7 | h7
                · 
                  rcases Bool.eq_false_or_eq_true (r04Is (Cmd.spot c)) with h8 | h8
                  · 
                    rcases Bool.eq_false_or_eq_true (Cmd.prio c == (0 : Int)) with h9 | h9
                    · 
                      have e : rMay c = (r19in (Cmd.long c) (1 : Int) (1000 : Int)) := by simp only [rMay, h0, h1, h2, h3, h4, h5, h6, h7, h8, h9, cond]
                      rw [e]
                      exact way rMayCf (rMay_w13 c) (conds_cons h0.symm (conds_cons h1.symm (conds_cons h2.symm (conds_cons h3.symm (conds_cons h4.symm (conds_cons h5.symm (conds_cons h6.symm (conds_cons h7.symm (conds_cons h8.symm (conds_cons h9.symm conds_nil)))))))))) rfl rfl h n
                    · 
                      have e : rMay c = false := by simp only [rMay, h0, h1, h2, h3, h4, h5, h6, h7, h8, h9, cond]
                      rw [e]
                      exact way rMayCf (rMay_w14 c) (conds_cons h0.symm (conds_cons h1.symm (conds_cons h2.symm (conds_cons h3.symm (conds_cons h4.symm (conds_cons h5.symm (conds_cons h6.symm (conds_cons h7.symm (conds_cons h8.symm (conds_cons h9.symm conds_nil)))))))))) rfl rfl h n
                  · 
                    have e : rMay c = false := by simp only [rMay, h0, h1, h2, h3, h4, h5, h6, h7, h8, cond]
                    rw [e]
                    exact way rMayCf (rMay_w15 c) (conds_cons h0.symm (conds_cons h1.symm (conds_cons h2.symm (conds_cons h3.symm (conds_cons h4.symm (conds_cons h5.symm (conds_cons h6.symm (conds_cons h7.symm (conds_cons h8.symm conds_nil))))))))) rfl rfl h n
                · 
                  rcases Bool.eq_false_or_eq_true (Cmd.kind c == (6 : Int)) with h8 | h8
                  · 
                    rcases Bool.eq_false_or_eq_true (r19in (Spot.bed (Cmd.spot c)) (1 : Int) (99 : Int)) with h10 | h10
                    · 
                      rcases Bool.eq_false_or_eq_true (Spot.channel (Cmd.spot c) == (0 : Int)) with h11 | h11
                      · 
                        rcases Bool.eq_false_or_eq_true (Cmd.prio c == (0 : Int)) with h12 | h12
                        · 
                          have e : rMay c = (r19in (Cmd.long c) (1 : Int) (1000 : Int)) := by simp only [rMay, h0, h1, h2, h3, h4, h5, h6, h7, h8, h10, h11, h12, cond]
                          rw [e]
                          exact way rMayCf (rMay_w16 c) (conds_cons h0.symm (conds_cons h1.symm (conds_cons h2.symm (conds_cons h3.symm (conds_cons h4.symm (conds_cons h5.symm (conds_cons h6.symm (conds_cons h7.symm (conds_cons h8.symm (conds_cons h8.symm (conds_cons h10.symm (conds_cons h11.symm (conds_cons h12.symm conds_nil))))))))))))) rfl rfl h n
                        · 
                          have e : rMay c = false := by simp only [rMay, h0, h1, h2, h3, h4, h5, h6, h7, h8, h10, h11, h12, cond]
                          rw [e]
                          exact way rMayCf (rMay_w17 c) (conds_cons h0.symm (conds_cons h1.symm (conds_cons h2.symm (conds_cons h3.symm (conds_cons h4.symm (conds_cons h5.symm (conds_cons h6.symm (conds_cons h7.symm (conds_cons h8.symm (conds_cons h8.symm (conds_cons h10.symm (conds_cons h11.symm (conds_cons h12.symm conds_nil))))))))))))) rfl rfl h n
                      · 
                        have e : rMay c = false := by simp only [rMay, h0, h1, h2, h3, h4, h5, h6, h7, h8, h10, h11, cond]
                        rw [e]
                        exact way rMayCf (rMay_w18 c) (conds_cons h0.symm (conds_cons h1.symm (conds_cons h2.symm (conds_cons h3.symm (conds_cons h4.symm (conds_cons h5.symm (conds_cons h6.symm (conds_cons h7.symm (conds_cons h8.symm (conds_cons h8.symm (conds_cons h10.symm (conds_cons h11.symm conds_nil)))))))))))) rfl rfl h n
                    · 
                      have e : rMay c = false := by simp only [rMay, h0, h1, h2, h3, h4, h5, h6, h7, h8, h10, cond]
                      rw [e]
                      exact way rMayCf (rMay_w19 c) (conds_cons h0.symm (conds_cons h1.symm (conds_cons h2.symm (conds_cons h3.symm (conds_cons h4.symm (conds_cons h5.symm (conds_cons h6.symm (conds_cons h7.symm (conds_cons h8.symm (conds_cons h8.symm (conds_cons h10.symm conds_nil))))))))))) rfl rfl h n
                  · 
                    rcases Bool.eq_false_or_eq_true (Cmd.kind c == (7 : Int)) with h9 | h9
                    · 
                      rcases Bool.eq_false_or_eq_true (r19in (Spot.bed (Cmd.spot c)) (1 : Int) (99 : Int)) with h10 | h10
                      · 
                        rcases Bool.eq_false_or_eq_true (Spot.channel (Cmd.spot c) == (0 : Int)) with h11 | h11
                        · 
                          rcases Bool.eq_false_or_eq_true (Cmd.prio c == (0 : Int)) with h12 | h12
                          · 
                            have e : rMay c = (r19in (Cmd.long c) (1 : Int) (1000 : Int)) := by simp only [rMay, h0, h1, h2, h3, h4, h5, h6, h7, h8, h9, h10, h11, h12, cond]
                            rw [e]
                            exact way rMayCf (rMay_w20 c) (conds_cons h0.symm (conds_cons h1.symm (conds_cons h2.symm (conds_cons h3.symm (conds_cons h4.symm (conds_cons h5.symm (conds_cons h6.symm (conds_cons h7.symm (conds_cons h8.symm (conds_cons h9.symm (conds_cons h10.symm (conds_cons h11.symm (conds_cons h12.symm conds_nil))))))))))))) rfl rfl h n
                          · 
                            have e : rMay c = false := by simp only [rMay, h0, h1, h2, h3, h4, h5, h6, h7, h8, h9, h10, h11, h12, cond]
                            rw [e]
                            exact way rMayCf (rMay_w21 c) (conds_cons h0.symm (conds_cons h1.symm (conds_cons h2.symm (conds_cons h3.symm (conds_cons h4.symm (conds_cons h5.symm (conds_cons h6.symm (conds_cons h7.symm (conds_cons h8.symm (conds_cons h9.symm (conds_cons h10.symm (conds_cons h11.symm (conds_cons h12.symm conds_nil))))))))))))) rfl rfl h n
                        · 
                          have e : rMay c = false := by simp only [rMay, h0, h1, h2, h3, h4, h5, h6, h7, h8, h9, h10, h11, cond]
                          rw [e]
                          exact way rMayCf (rMay_w22 c) (conds_cons h0.symm (conds_cons h1.symm (conds_cons h2.symm (conds_cons h3.symm (conds_cons h4.symm (conds_cons h5.symm (conds_cons h6.symm (conds_cons h7.symm (conds_cons h8.symm (conds_cons h9.symm (conds_cons h10.symm (conds_cons h11.symm conds_nil)))))))))))) rfl rfl h n
                      · 
                        have e : rMay c = false := by simp only [rMay, h0, h1, h2, h3, h4, h5, h6, h7, h8, h9, h10, cond]
                        rw [e]
                        exact way rMayCf (rMay_w23 c) (conds_cons h0.symm (conds_cons h1.symm (conds_cons h2.symm (conds_cons h3.symm (conds_cons h4.symm (conds_cons h5.symm (conds_cons h6.symm (conds_cons h7.symm (conds_cons h8.symm (conds_cons h9.symm (conds_cons h10.symm conds_nil))))))))))) rfl rfl h n
                    · 
                      rcases Bool.eq_false_or_eq_true (Cmd.kind c == (8 : Int)) with h10 | h10
                      · 
                        rcases Bool.eq_false_or_eq_true (Spot.bed (Cmd.spot c) == (0 : Int) && Spot.channel (Cmd.spot c) == (0 : Int)) with h11 | h11
                        · 
                          rcases Bool.eq_false_or_eq_true (Cmd.prio c == (0 : Int)) with h12 | h12
                          · 
                            have e : rMay c = (r19in (Cmd.long c) (1 : Int) (20 : Int)) := by simp only [rMay, h0, h1, h2, h3, h4, h5, h6, h7, h8, h9, h10, h11, h12, cond]
                            rw [e]
                            exact way rMayCf (rMay_w24 c) (conds_cons h0.symm (conds_cons h1.symm (conds_cons h2.symm (conds_cons h3.symm (conds_cons h4.symm (conds_cons h5.symm (conds_cons h6.symm (conds_cons h7.symm (conds_cons h8.symm (conds_cons h9.symm (conds_cons h10.symm (conds_cons h11.symm (conds_cons h12.symm conds_nil))))))))))))) rfl rfl h n
                          · 
                            have e : rMay c = false := by simp only [rMay, h0, h1, h2, h3, h4, h5, h6, h7, h8, h9, h10, h11, h12, cond]
                            rw [e]
                            exact way rMayCf (rMay_w25 c) (conds_cons h0.symm (conds_cons h1.symm (conds_cons h2.symm (conds_cons h3.symm (conds_cons h4.symm (conds_cons h5.symm (conds_cons h6.symm (conds_cons h7.symm (conds_cons h8.symm (conds_cons h9.symm (conds_cons h10.symm (conds_cons h11.symm (conds_cons h12.symm conds_nil))))))))))))) rfl rfl h n
                        · 
                          have e : rMay c = false := by simp only [rMay, h0, h1, h2, h3, h4, h5, h6, h7, h8, h9, h10, h11, cond]
                          rw [e]
                          exact way rMayCf (rMay_w26 c) (conds_cons h0.symm (conds_cons h1.symm (conds_cons h2.symm (conds_cons h3.symm (conds_cons h4.symm (conds_cons h5.symm (conds_cons h6.symm (conds_cons h7.symm (conds_cons h8.symm (conds_cons h9.symm (conds_cons h10.symm (conds_cons h11.symm conds_nil)))))))))))) rfl rfl h n
                      · 
                        rcases Bool.eq_false_or_eq_true (Cmd.kind c == (9 : Int)) with h11 | h11
                        · 
                          rcases Bool.eq_false_or_eq_true (Spot.bed (Cmd.spot c) == (0 : Int) && Spot.channel (Cmd.spot c) == (0 : Int)) with h12 | h12
                          · 
                            rcases Bool.eq_false_or_eq_true (Cmd.prio c == (0 : Int)) with h13 | h13
                            · 
                              have e : rMay c = (Cmd.long c == (0 : Int)) := by simp only [rMay, h0, h1, h2, h3, h4, h5, h6, h7, h8, h9, h10, h11, h12, h13, cond]
                              rw [e]
                              exact way rMayCf (rMay_w27 c) (conds_cons h0.symm (conds_cons h1.symm (conds_cons h2.symm (conds_cons h3.symm (conds_cons h4.symm (conds_cons h5.symm (conds_cons h6.symm (conds_cons h7.symm (conds_cons h8.symm (conds_cons h9.symm (conds_cons h10.symm (conds_cons h11.symm (conds_cons h12.symm (conds_cons h13.symm conds_nil)))))))))))))) rfl rfl h n
                            · 
                              have e : rMay c = false := by simp only [rMay, h0, h1, h2, h3, h4, h5, h6, h7, h8, h9, h10, h11, h12, h13, cond]
                              rw [e]
                              exact way rMayCf (rMay_w28 c) (conds_cons h0.symm (conds_cons h1.symm (conds_cons h2.symm (conds_cons h3.symm (conds_cons h4.symm (conds_cons h5.symm (conds_cons h6.symm (conds_cons h7.symm (conds_cons h8.symm (conds_cons h9.symm (conds_cons h10.symm (conds_cons h11.symm (conds_cons h12.symm (conds_cons h13.symm conds_nil)))))))))))))) rfl rfl h n
                          · 
                            have e : rMay c = false := by simp only [rMay, h0, h1, h2, h3, h4, h5, h6, h7, h8, h9, h10, h11, h12, cond]
                            rw [e]
                            exact way rMayCf (rMay_w29 c) (conds_cons h0.symm (conds_cons h1.symm (conds_cons h2.symm (conds_cons h3.symm (conds_cons h4.symm (conds_cons h5.symm (conds_cons h6.symm (conds_cons h7.symm (conds_cons h8.symm (conds_cons h9.symm (conds_cons h10.symm (conds_cons h11.symm (conds_cons h12.symm conds_nil))))))))))))) rfl rfl h n
                        · 
                          have e : rMay c = false := by simp only [rMay, h0, h1, h2, h3, h4, h5, h6, h7, h8, h9, h10, h11, cond]
                          rw [e]
                          exact way rMayCf (rMay_w30 c) (conds_cons h0.symm (conds_cons h1.symm (conds_cons h2.symm (conds_cons h3.symm (conds_cons h4.symm (conds_cons h5.symm (conds_cons h6.symm (conds_cons h7.symm (conds_cons h8.symm (conds_cons h9.symm (conds_cons h10.symm (conds_cons h11.symm conds_nil)))))))))))) rfl rfl h n
def conrMay : Con := (42, fun l => match l with
  | [x0] => (match Cmd.of x0 with | some s0 => some (.bool (rMay s0)) | none => none)
  | _ => none)
theorem conrMay_ok : ConOk Try.prog conrMay := by
  intro l v e h n
  simp only [conrMay] at e
  split at e
  · skip
    split at e
    · rename_i s0 es0
      cases e
      cases Cmd.of_eq es0
      exact rMay_ok _ h n
    · cases e
  · cases e

end Go.Proofs.Ytopeokonlaljlaa
