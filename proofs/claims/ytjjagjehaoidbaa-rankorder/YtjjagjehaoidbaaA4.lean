/- Part 4 of the proof of RankOrder. -/
import Derived.Test.YtjjagjehaoidbaaA3
set_option linter.unusedVariables false
set_option linter.unusedSimpArgs false
set_option linter.unusedSectionVars false
namespace Go.Proofs.Ytjjagjehaoidbaa.P
open Go.RowKit Go.Proofs.YtjjagjehaoidbaaW.PrintWords Go.Proofs.YtjjagjehaoidbaaW.PrintLast Go.Proofs.YtjjagjehaoidbaaW.PrintMore
attribute [local go_sem] max2_int min2_int max_two min_two max_three min_three max_four min_four
set_option linter.unusedVariables false
set_option linter.unusedSimpArgs false
def watchmanlaw07_ranked.f (k : Nat)  : Option (Bool) := (watchmanlaw07_one.f 1 1 5).bind fun bt194 => ((watchmanlaw07_one.f 3 1 0).bind fun bt200 => ((watchmanlaw07_one.f 2 3 9).bind fun bt206 => ((watchmanlaw07_one.f 1 2 1).bind fun bt212 => ((some (([(⟨(⟨bt194.1, bt194.2.1⟩ : S24), bt194.2.2.1, bt194.2.2.2.1, bt194.2.2.2.2.1, bt194.2.2.2.2.2⟩ : S34), (⟨(⟨bt200.1, bt200.2.1⟩ : S24), bt200.2.2.1, bt200.2.2.2.1, bt200.2.2.2.2.1, bt200.2.2.2.2.2⟩ : S34), (⟨(⟨bt206.1, bt206.2.1⟩ : S24), bt206.2.2.1, bt206.2.2.2.1, bt206.2.2.2.2.1, bt206.2.2.2.2.2⟩ : S34), (⟨(⟨bt212.1, bt212.2.1⟩ : S24), bt212.2.2.1, bt212.2.2.2.1, bt212.2.2.2.2.1, bt212.2.2.2.2.2⟩ : S34)] : List (S34)) : List (S34))).bind fun y218 => (if 2 < (y218.length : Int) then (if 0 < (y218.length : Int) then (if 3 < (y218.length : Int) then (if 1 < (y218.length : Int) then ((some (([(⟨(⟨(rd_T34 y218 2).f0.f0, (rd_T34 y218 2).f0.f1⟩ : S24), (rd_T34 y218 2).f1, (rd_T34 y218 2).f2, (rd_T34 y218 2).f3, (rd_T34 y218 2).f4⟩ : S34), (⟨(⟨(rd_T34 y218 0).f0.f0, (rd_T34 y218 0).f0.f1⟩ : S24), (rd_T34 y218 0).f1, (rd_T34 y218 0).f2, (rd_T34 y218 0).f3, (rd_T34 y218 0).f4⟩ : S34), (⟨(⟨(rd_T34 y218 3).f0.f0, (rd_T34 y218 3).f0.f1⟩ : S24), (rd_T34 y218 3).f1, (rd_T34 y218 3).f2, (rd_T34 y218 3).f3, (rd_T34 y218 3).f4⟩ : S34), (⟨(⟨(rd_T34 y218 1).f0.f0, (rd_T34 y218 1).f0.f1⟩ : S24), (rd_T34 y218 1).f1, (rd_T34 y218 1).f2, (rd_T34 y218 1).f3, (rd_T34 y218 1).f4⟩ : S34)] : List (S34)) : List (S34))).bind fun y225 => ((rank_Place.f y218 0 0).bind fun bt228 => ((rank_Place.f y218 1 0).bind fun bt230 => ((rank_Sort.f y218).bind fun t232 => ((watchmanref07_Same.f k t232 y225).bind fun t235 => (if t235 = true then ((rank_Top.f 2 y218).bind fun t236 => (if 2 ≤ (y225.length : Int) then ((watchmanref07_Same.f k t236 (y225.take 2)).bind fun t243 => (if t243 = true then ((rank_Top.f 0 y218).bind fun t244 => (if (t244.length : Int) = 0 then (if bt228.2 = true then (if bt228.1 = 0 then (if bt230.2 = true then (none) else ((rank_Compare.f ((rd_T34 y218 0).f0.f0) ((rd_T34 y218 0).f0.f1) ((rd_T34 y218 0).f1) ((rd_T34 y218 0).f2) ((rd_T34 y218 0).f3) ((rd_T34 y218 0).f4) ((rd_T34 y218 1).f0.f0) ((rd_T34 y218 1).f0.f1) ((rd_T34 y218 1).f1) ((rd_T34 y218 1).f2) ((rd_T34 y218 1).f3) ((rd_T34 y218 1).f4)).bind fun t249 => (if t249 = (-1) then (if 2 ≤ (y218.length : Int) then ((rank_Merge.f (y218.take 2) (y218.drop 2)).bind fun t258 => ((watchmanref07_Same.f k t258 y225).bind fun t261 => (some t261))) else (none)) else (none)))) else (none)) else (none)) else (none))) else (none))) else (none))) else (none))))))) else (none)) else (none)) else (none)) else (none))))))
theorem watchmanlaw07_ranked.mono : ∀ k, LeO (watchmanlaw07_ranked.f k ) (watchmanlaw07_ranked.f (k + 1) ) := by
  intro  k
  unfold watchmanlaw07_ranked.f
  repeat' first
      | (with_reducible exact watchmanref07_Same.mono _ _ _)
      | (with_reducible exact LeO.refl _)
      | (with_reducible exact LeO.none _)
      | (with_reducible refine LeO.ite ?_ ?_)
      | (with_reducible refine LeO.bind ?_ (fun _ => ?_))
      | exact watchmanref07_Same.mono _ _ _
      | exact LeO.none _
      | refine LeO.ite ?_ ?_
      | refine LeO.bind ?_ (fun _ => ?_)
def watchmanlaw07_ranked.T2 : Bool × List (List Nat × List Nat) := (true, [([], []), ([0], [0]), ([1], [1]), ([], []), ([3], [3]), ([4], [4]), ([], []), ([6], [6]), ([7], [7]), ([], []), ([9], [9]), ([10], [10]), ([2, 5, 8, 11], [2, 5, 8, 11]), ([12, 0, 1, 2, 3, 4, 5, 6, 7, 8, 9, 10, 11, 12], [12])])
def watchmanlaw07_ranked.B2 : List Nat := [0, 1, 3, 0, 8, 24, 0, 64, 192, 0, 512, 1536, 4095, 8191]
theorem watchmanlaw07_ranked.tab2 : rtab .any (opsOf Try.f21 2) = watchmanlaw07_ranked.T2 := by kernel_rfl
theorem watchmanlaw07_ranked.bits2 : waitsOk watchmanlaw07_ranked.T2.2 watchmanlaw07_ranked.B2 = true := by kernel_rfl
def watchmanlaw07_ranked.T5 : Bool × List (List Nat × List Nat) := (true, [([], []), ([0], [0]), ([], []), ([1, 2, 1], [1, 2]), ([3, 3], [3]), ([4], [4]), ([5, 4, 4], [4, 5]), ([4], [4]), ([7, 4], [4, 7]), ([6, 8, 6, 4], [4, 6, 8]), ([4, 9], [4, 9]), ([10, 9], [10]), ([11], [11]), ([12, 11, 11], [11, 12]), ([13, 11], [11, 13]), ([14, 11], [11, 14]), ([11, 15], [11, 15]), ([16, 13], [16]), ([17], [17]), ([17, 18], [17, 18]), ([19, 17], [19]), ([20], [20]), ([21, 20], [20, 21]), ([20, 22], [20, 22]), ([23, 20], [23]), ([24], [24]), ([25, 24], [24, 25]), ([24, 26], [24, 26]), ([27, 24], [27]), ([28], [28]), ([29, 28], [28, 29]), ([30, 28], [28, 30]), ([28], [28]), ([32, 28], [28, 32]), ([33, 28], [28, 33]), ([31, 34, 28, 28], [28, 31, 34]), ([35, 28], [28, 35]), ([28, 36], [28, 36]), ([37, 35], [37]), ([38], [38]), ([39, 38], [38, 39]), ([38], [38]), ([41, 38], [38, 41]), ([40, 42, 38, 38], [38, 40, 42]), ([38], [38]), ([43, 44, 43, 38], [38, 43, 44]), ([38, 45], [38, 45]), ([46, 45, 0, 1, 2, 3, 4, 5, 6, 7, 8, 9, 10, 11, 12, 13, 14, 15, 16, 17, 18, 19, 20, 21, 22, 23, 24, 25, 26, 27, 28, 29, 30, 31, 32, 33, 34, 35, 36, 37, 38, 39, 40, 41, 42, 43, 44, 45, 46], [46])])
def watchmanlaw07_ranked.B5 : List Nat := [0, 1, 0, 7, 15, 31, 63, 31, 159, 511, 1023, 2047, 4095, 8191, 16383, 32767, 65535, 131071, 262143, 524287, 1048575, 2097151, 4194303, 8388607, 16777215, 33554431, 67108863, 134217727, 268435455, 536870911, 1073741823, 2147483647, 536870911, 4831838207, 13421772799, 34359738367, 68719476735, 137438953471, 274877906943, 549755813887, 1099511627775, 549755813887, 2748779069439, 8796093022207, 549755813887, 35184372088831, 70368744177663, 140737488355327]
theorem watchmanlaw07_ranked.tab5 : rtab .any (opsOf Try.f21 5) = watchmanlaw07_ranked.T5 := by kernel_rfl
theorem watchmanlaw07_ranked.bits5 : waitsOk watchmanlaw07_ranked.T5.2 watchmanlaw07_ranked.B5 = true := by kernel_rfl
set_option maxHeartbeats 8000000 in
set_option maxRecDepth 100000 in
theorem watchmanlaw07_ranked.calls (k : Nat)  (r : Bool) (w : World) (h : watchmanlaw07_ranked.f k  = some r) :
    Calls Try.prog 21 #[] w fun e w' => e = .returned (.bool r) ∧ Below w.heap.size w w' := by
  have hu34 := Try.underlying34
  have hu24 := Try.underlying24
  have HB := Aside0.mk (Below.refl w.heap.size w)
  have H : ((watchmanlaw07_one.f 1 1 5).bind fun bt194 => ((watchmanlaw07_one.f 3 1 0).bind fun bt200 => ((watchmanlaw07_one.f 2 3 9).bind fun bt206 => ((watchmanlaw07_one.f 1 2 1).bind fun bt212 => ((some (([(⟨(⟨bt194.1, bt194.2.1⟩ : S24), bt194.2.2.1, bt194.2.2.2.1, bt194.2.2.2.2.1, bt194.2.2.2.2.2⟩ : S34), (⟨(⟨bt200.1, bt200.2.1⟩ : S24), bt200.2.2.1, bt200.2.2.2.1, bt200.2.2.2.2.1, bt200.2.2.2.2.2⟩ : S34), (⟨(⟨bt206.1, bt206.2.1⟩ : S24), bt206.2.2.1, bt206.2.2.2.1, bt206.2.2.2.2.1, bt206.2.2.2.2.2⟩ : S34), (⟨(⟨bt212.1, bt212.2.1⟩ : S24), bt212.2.2.1, bt212.2.2.2.1, bt212.2.2.2.2.1, bt212.2.2.2.2.2⟩ : S34)] : List (S34)) : List (S34))).bind fun y218 => (if 2 < (y218.length : Int) then (if 0 < (y218.length : Int) then (if 3 < (y218.length : Int) then (if 1 < (y218.length : Int) then ((some (([(⟨(⟨(rd_T34 y218 2).f0.f0, (rd_T34 y218 2).f0.f1⟩ : S24), (rd_T34 y218 2).f1, (rd_T34 y218 2).f2, (rd_T34 y218 2).f3, (rd_T34 y218 2).f4⟩ : S34), (⟨(⟨(rd_T34 y218 0).f0.f0, (rd_T34 y218 0).f0.f1⟩ : S24), (rd_T34 y218 0).f1, (rd_T34 y218 0).f2, (rd_T34 y218 0).f3, (rd_T34 y218 0).f4⟩ : S34), (⟨(⟨(rd_T34 y218 3).f0.f0, (rd_T34 y218 3).f0.f1⟩ : S24), (rd_T34 y218 3).f1, (rd_T34 y218 3).f2, (rd_T34 y218 3).f3, (rd_T34 y218 3).f4⟩ : S34), (⟨(⟨(rd_T34 y218 1).f0.f0, (rd_T34 y218 1).f0.f1⟩ : S24), (rd_T34 y218 1).f1, (rd_T34 y218 1).f2, (rd_T34 y218 1).f3, (rd_T34 y218 1).f4⟩ : S34)] : List (S34)) : List (S34))).bind fun y225 => ((rank_Place.f y218 0 0).bind fun bt228 => ((rank_Place.f y218 1 0).bind fun bt230 => ((rank_Sort.f y218).bind fun t232 => ((watchmanref07_Same.f k t232 y225).bind fun t235 => (if t235 = true then ((rank_Top.f 2 y218).bind fun t236 => (if 2 ≤ (y225.length : Int) then ((watchmanref07_Same.f k t236 (y225.take 2)).bind fun t243 => (if t243 = true then ((rank_Top.f 0 y218).bind fun t244 => (if (t244.length : Int) = 0 then (if bt228.2 = true then (if bt228.1 = 0 then (if bt230.2 = true then (none) else ((rank_Compare.f ((rd_T34 y218 0).f0.f0) ((rd_T34 y218 0).f0.f1) ((rd_T34 y218 0).f1) ((rd_T34 y218 0).f2) ((rd_T34 y218 0).f3) ((rd_T34 y218 0).f4) ((rd_T34 y218 1).f0.f0) ((rd_T34 y218 1).f0.f1) ((rd_T34 y218 1).f1) ((rd_T34 y218 1).f2) ((rd_T34 y218 1).f3) ((rd_T34 y218 1).f4)).bind fun t249 => (if t249 = (-1) then (if 2 ≤ (y218.length : Int) then ((rank_Merge.f (y218.take 2) (y218.drop 2)).bind fun t258 => ((watchmanref07_Same.f k t258 y225).bind fun t261 => (some t261))) else (none)) else (none)))) else (none)) else (none)) else (none))) else (none))) else (none))) else (none))))))) else (none)) else (none)) else (none)) else (none))))))) = some r := h
  clear h
  replace H := Option.bind_eq_some_iff.mp H
  obtain ⟨⟨t194, t195, t196, t197, t198, t199⟩, A10, H⟩ := H
  replace H : ((watchmanlaw07_one.f 3 1 0).bind fun bt200 => ((watchmanlaw07_one.f 2 3 9).bind fun bt206 => ((watchmanlaw07_one.f 1 2 1).bind fun bt212 => ((some (([(⟨(⟨t194, t195⟩ : S24), t196, t197, t198, t199⟩ : S34), (⟨(⟨bt200.1, bt200.2.1⟩ : S24), bt200.2.2.1, bt200.2.2.2.1, bt200.2.2.2.2.1, bt200.2.2.2.2.2⟩ : S34), (⟨(⟨bt206.1, bt206.2.1⟩ : S24), bt206.2.2.1, bt206.2.2.2.1, bt206.2.2.2.2.1, bt206.2.2.2.2.2⟩ : S34), (⟨(⟨bt212.1, bt212.2.1⟩ : S24), bt212.2.2.1, bt212.2.2.2.1, bt212.2.2.2.2.1, bt212.2.2.2.2.2⟩ : S34)] : List (S34)) : List (S34))).bind fun y218 => (if 2 < (y218.length : Int) then (if 0 < (y218.length : Int) then (if 3 < (y218.length : Int) then (if 1 < (y218.length : Int) then ((some (([(⟨(⟨(rd_T34 y218 2).f0.f0, (rd_T34 y218 2).f0.f1⟩ : S24), (rd_T34 y218 2).f1, (rd_T34 y218 2).f2, (rd_T34 y218 2).f3, (rd_T34 y218 2).f4⟩ : S34), (⟨(⟨(rd_T34 y218 0).f0.f0, (rd_T34 y218 0).f0.f1⟩ : S24), (rd_T34 y218 0).f1, (rd_T34 y218 0).f2, (rd_T34 y218 0).f3, (rd_T34 y218 0).f4⟩ : S34), (⟨(⟨(rd_T34 y218 3).f0.f0, (rd_T34 y218 3).f0.f1⟩ : S24), (rd_T34 y218 3).f1, (rd_T34 y218 3).f2, (rd_T34 y218 3).f3, (rd_T34 y218 3).f4⟩ : S34), (⟨(⟨(rd_T34 y218 1).f0.f0, (rd_T34 y218 1).f0.f1⟩ : S24), (rd_T34 y218 1).f1, (rd_T34 y218 1).f2, (rd_T34 y218 1).f3, (rd_T34 y218 1).f4⟩ : S34)] : List (S34)) : List (S34))).bind fun y225 => ((rank_Place.f y218 0 0).bind fun bt228 => ((rank_Place.f y218 1 0).bind fun bt230 => ((rank_Sort.f y218).bind fun t232 => ((watchmanref07_Same.f k t232 y225).bind fun t235 => (if t235 = true then ((rank_Top.f 2 y218).bind fun t236 => (if 2 ≤ (y225.length : Int) then ((watchmanref07_Same.f k t236 (y225.take 2)).bind fun t243 => (if t243 = true then ((rank_Top.f 0 y218).bind fun t244 => (if (t244.length : Int) = 0 then (if bt228.2 = true then (if bt228.1 = 0 then (if bt230.2 = true then (none) else ((rank_Compare.f ((rd_T34 y218 0).f0.f0) ((rd_T34 y218 0).f0.f1) ((rd_T34 y218 0).f1) ((rd_T34 y218 0).f2) ((rd_T34 y218 0).f3) ((rd_T34 y218 0).f4) ((rd_T34 y218 1).f0.f0) ((rd_T34 y218 1).f0.f1) ((rd_T34 y218 1).f1) ((rd_T34 y218 1).f2) ((rd_T34 y218 1).f3) ((rd_T34 y218 1).f4)).bind fun t249 => (if t249 = (-1) then (if 2 ≤ (y218.length : Int) then ((rank_Merge.f (y218.take 2) (y218.drop 2)).bind fun t258 => ((watchmanref07_Same.f k t258 y225).bind fun t261 => (some t261))) else (none)) else (none)))) else (none)) else (none)) else (none))) else (none))) else (none))) else (none))))))) else (none)) else (none)) else (none)) else (none)))))) = some r := H
  have A1 := Aside0.mk A10
  clear A10
  replace H := Option.bind_eq_some_iff.mp H
  obtain ⟨⟨t200, t201, t202, t203, t204, t205⟩, A20, H⟩ := H
  replace H : ((watchmanlaw07_one.f 2 3 9).bind fun bt206 => ((watchmanlaw07_one.f 1 2 1).bind fun bt212 => ((some (([(⟨(⟨t194, t195⟩ : S24), t196, t197, t198, t199⟩ : S34), (⟨(⟨t200, t201⟩ : S24), t202, t203, t204, t205⟩ : S34), (⟨(⟨bt206.1, bt206.2.1⟩ : S24), bt206.2.2.1, bt206.2.2.2.1, bt206.2.2.2.2.1, bt206.2.2.2.2.2⟩ : S34), (⟨(⟨bt212.1, bt212.2.1⟩ : S24), bt212.2.2.1, bt212.2.2.2.1, bt212.2.2.2.2.1, bt212.2.2.2.2.2⟩ : S34)] : List (S34)) : List (S34))).bind fun y218 => (if 2 < (y218.length : Int) then (if 0 < (y218.length : Int) then (if 3 < (y218.length : Int) then (if 1 < (y218.length : Int) then ((some (([(⟨(⟨(rd_T34 y218 2).f0.f0, (rd_T34 y218 2).f0.f1⟩ : S24), (rd_T34 y218 2).f1, (rd_T34 y218 2).f2, (rd_T34 y218 2).f3, (rd_T34 y218 2).f4⟩ : S34), (⟨(⟨(rd_T34 y218 0).f0.f0, (rd_T34 y218 0).f0.f1⟩ : S24), (rd_T34 y218 0).f1, (rd_T34 y218 0).f2, (rd_T34 y218 0).f3, (rd_T34 y218 0).f4⟩ : S34), (⟨(⟨(rd_T34 y218 3).f0.f0, (rd_T34 y218 3).f0.f1⟩ : S24), (rd_T34 y218 3).f1, (rd_T34 y218 3).f2, (rd_T34 y218 3).f3, (rd_T34 y218 3).f4⟩ : S34), (⟨(⟨(rd_T34 y218 1).f0.f0, (rd_T34 y218 1).f0.f1⟩ : S24), (rd_T34 y218 1).f1, (rd_T34 y218 1).f2, (rd_T34 y218 1).f3, (rd_T34 y218 1).f4⟩ : S34)] : List (S34)) : List (S34))).bind fun y225 => ((rank_Place.f y218 0 0).bind fun bt228 => ((rank_Place.f y218 1 0).bind fun bt230 => ((rank_Sort.f y218).bind fun t232 => ((watchmanref07_Same.f k t232 y225).bind fun t235 => (if t235 = true then ((rank_Top.f 2 y218).bind fun t236 => (if 2 ≤ (y225.length : Int) then ((watchmanref07_Same.f k t236 (y225.take 2)).bind fun t243 => (if t243 = true then ((rank_Top.f 0 y218).bind fun t244 => (if (t244.length : Int) = 0 then (if bt228.2 = true then (if bt228.1 = 0 then (if bt230.2 = true then (none) else ((rank_Compare.f ((rd_T34 y218 0).f0.f0) ((rd_T34 y218 0).f0.f1) ((rd_T34 y218 0).f1) ((rd_T34 y218 0).f2) ((rd_T34 y218 0).f3) ((rd_T34 y218 0).f4) ((rd_T34 y218 1).f0.f0) ((rd_T34 y218 1).f0.f1) ((rd_T34 y218 1).f1) ((rd_T34 y218 1).f2) ((rd_T34 y218 1).f3) ((rd_T34 y218 1).f4)).bind fun t249 => (if t249 = (-1) then (if 2 ≤ (y218.length : Int) then ((rank_Merge.f (y218.take 2) (y218.drop 2)).bind fun t258 => ((watchmanref07_Same.f k t258 y225).bind fun t261 => (some t261))) else (none)) else (none)))) else (none)) else (none)) else (none))) else (none))) else (none))) else (none))))))) else (none)) else (none)) else (none)) else (none))))) = some r := H
  have A2 := Aside0.mk A20
  clear A20
  replace H := Option.bind_eq_some_iff.mp H
  obtain ⟨⟨t206, t207, t208, t209, t210, t211⟩, A30, H⟩ := H
  replace H : ((watchmanlaw07_one.f 1 2 1).bind fun bt212 => ((some (([(⟨(⟨t194, t195⟩ : S24), t196, t197, t198, t199⟩ : S34), (⟨(⟨t200, t201⟩ : S24), t202, t203, t204, t205⟩ : S34), (⟨(⟨t206, t207⟩ : S24), t208, t209, t210, t211⟩ : S34), (⟨(⟨bt212.1, bt212.2.1⟩ : S24), bt212.2.2.1, bt212.2.2.2.1, bt212.2.2.2.2.1, bt212.2.2.2.2.2⟩ : S34)] : List (S34)) : List (S34))).bind fun y218 => (if 2 < (y218.length : Int) then (if 0 < (y218.length : Int) then (if 3 < (y218.length : Int) then (if 1 < (y218.length : Int) then ((some (([(⟨(⟨(rd_T34 y218 2).f0.f0, (rd_T34 y218 2).f0.f1⟩ : S24), (rd_T34 y218 2).f1, (rd_T34 y218 2).f2, (rd_T34 y218 2).f3, (rd_T34 y218 2).f4⟩ : S34), (⟨(⟨(rd_T34 y218 0).f0.f0, (rd_T34 y218 0).f0.f1⟩ : S24), (rd_T34 y218 0).f1, (rd_T34 y218 0).f2, (rd_T34 y218 0).f3, (rd_T34 y218 0).f4⟩ : S34), (⟨(⟨(rd_T34 y218 3).f0.f0, (rd_T34 y218 3).f0.f1⟩ : S24), (rd_T34 y218 3).f1, (rd_T34 y218 3).f2, (rd_T34 y218 3).f3, (rd_T34 y218 3).f4⟩ : S34), (⟨(⟨(rd_T34 y218 1).f0.f0, (rd_T34 y218 1).f0.f1⟩ : S24), (rd_T34 y218 1).f1, (rd_T34 y218 1).f2, (rd_T34 y218 1).f3, (rd_T34 y218 1).f4⟩ : S34)] : List (S34)) : List (S34))).bind fun y225 => ((rank_Place.f y218 0 0).bind fun bt228 => ((rank_Place.f y218 1 0).bind fun bt230 => ((rank_Sort.f y218).bind fun t232 => ((watchmanref07_Same.f k t232 y225).bind fun t235 => (if t235 = true then ((rank_Top.f 2 y218).bind fun t236 => (if 2 ≤ (y225.length : Int) then ((watchmanref07_Same.f k t236 (y225.take 2)).bind fun t243 => (if t243 = true then ((rank_Top.f 0 y218).bind fun t244 => (if (t244.length : Int) = 0 then (if bt228.2 = true then (if bt228.1 = 0 then (if bt230.2 = true then (none) else ((rank_Compare.f ((rd_T34 y218 0).f0.f0) ((rd_T34 y218 0).f0.f1) ((rd_T34 y218 0).f1) ((rd_T34 y218 0).f2) ((rd_T34 y218 0).f3) ((rd_T34 y218 0).f4) ((rd_T34 y218 1).f0.f0) ((rd_T34 y218 1).f0.f1) ((rd_T34 y218 1).f1) ((rd_T34 y218 1).f2) ((rd_T34 y218 1).f3) ((rd_T34 y218 1).f4)).bind fun t249 => (if t249 = (-1) then (if 2 ≤ (y218.length : Int) then ((rank_Merge.f (y218.take 2) (y218.drop 2)).bind fun t258 => ((watchmanref07_Same.f k t258 y225).bind fun t261 => (some t261))) else (none)) else (none)))) else (none)) else (none)) else (none))) else (none))) else (none))) else (none))))))) else (none)) else (none)) else (none)) else (none)))) = some r := H
  have A3 := Aside0.mk A30
  clear A30
  replace H := Option.bind_eq_some_iff.mp H
  obtain ⟨⟨t212, t213, t214, t215, t216, t217⟩, A40, H⟩ := H
  replace H : ((some (([(⟨(⟨t194, t195⟩ : S24), t196, t197, t198, t199⟩ : S34), (⟨(⟨t200, t201⟩ : S24), t202, t203, t204, t205⟩ : S34), (⟨(⟨t206, t207⟩ : S24), t208, t209, t210, t211⟩ : S34), (⟨(⟨t212, t213⟩ : S24), t214, t215, t216, t217⟩ : S34)] : List (S34)) : List (S34))).bind fun y218 => (if 2 < (y218.length : Int) then (if 0 < (y218.length : Int) then (if 3 < (y218.length : Int) then (if 1 < (y218.length : Int) then ((some (([(⟨(⟨(rd_T34 y218 2).f0.f0, (rd_T34 y218 2).f0.f1⟩ : S24), (rd_T34 y218 2).f1, (rd_T34 y218 2).f2, (rd_T34 y218 2).f3, (rd_T34 y218 2).f4⟩ : S34), (⟨(⟨(rd_T34 y218 0).f0.f0, (rd_T34 y218 0).f0.f1⟩ : S24), (rd_T34 y218 0).f1, (rd_T34 y218 0).f2, (rd_T34 y218 0).f3, (rd_T34 y218 0).f4⟩ : S34), (⟨(⟨(rd_T34 y218 3).f0.f0, (rd_T34 y218 3).f0.f1⟩ : S24), (rd_T34 y218 3).f1, (rd_T34 y218 3).f2, (rd_T34 y218 3).f3, (rd_T34 y218 3).f4⟩ : S34), (⟨(⟨(rd_T34 y218 1).f0.f0, (rd_T34 y218 1).f0.f1⟩ : S24), (rd_T34 y218 1).f1, (rd_T34 y218 1).f2, (rd_T34 y218 1).f3, (rd_T34 y218 1).f4⟩ : S34)] : List (S34)) : List (S34))).bind fun y225 => ((rank_Place.f y218 0 0).bind fun bt228 => ((rank_Place.f y218 1 0).bind fun bt230 => ((rank_Sort.f y218).bind fun t232 => ((watchmanref07_Same.f k t232 y225).bind fun t235 => (if t235 = true then ((rank_Top.f 2 y218).bind fun t236 => (if 2 ≤ (y225.length : Int) then ((watchmanref07_Same.f k t236 (y225.take 2)).bind fun t243 => (if t243 = true then ((rank_Top.f 0 y218).bind fun t244 => (if (t244.length : Int) = 0 then (if bt228.2 = true then (if bt228.1 = 0 then (if bt230.2 = true then (none) else ((rank_Compare.f ((rd_T34 y218 0).f0.f0) ((rd_T34 y218 0).f0.f1) ((rd_T34 y218 0).f1) ((rd_T34 y218 0).f2) ((rd_T34 y218 0).f3) ((rd_T34 y218 0).f4) ((rd_T34 y218 1).f0.f0) ((rd_T34 y218 1).f0.f1) ((rd_T34 y218 1).f1) ((rd_T34 y218 1).f2) ((rd_T34 y218 1).f3) ((rd_T34 y218 1).f4)).bind fun t249 => (if t249 = (-1) then (if 2 ≤ (y218.length : Int) then ((rank_Merge.f (y218.take 2) (y218.drop 2)).bind fun t258 => ((watchmanref07_Same.f k t258 y225).bind fun t261 => (some t261))) else (none)) else (none)))) else (none)) else (none)) else (none))) else (none))) else (none))) else (none))))))) else (none)) else (none)) else (none)) else (none))) = some r := H
  have A4 := Aside0.mk A40
  clear A40
  obtain ⟨y218, hy218⟩ : ∃ y_ : List (S34), y_ = (([(⟨(⟨t194, t195⟩ : S24), t196, t197, t198, t199⟩ : S34), (⟨(⟨t200, t201⟩ : S24), t202, t203, t204, t205⟩ : S34), (⟨(⟨t206, t207⟩ : S24), t208, t209, t210, t211⟩ : S34), (⟨(⟨t212, t213⟩ : S24), t214, t215, t216, t217⟩ : S34)] : List (S34))) := ⟨_, rfl⟩
  replace H : (if 2 < (y218.length : Int) then (if 0 < (y218.length : Int) then (if 3 < (y218.length : Int) then (if 1 < (y218.length : Int) then ((some (([(⟨(⟨(rd_T34 y218 2).f0.f0, (rd_T34 y218 2).f0.f1⟩ : S24), (rd_T34 y218 2).f1, (rd_T34 y218 2).f2, (rd_T34 y218 2).f3, (rd_T34 y218 2).f4⟩ : S34), (⟨(⟨(rd_T34 y218 0).f0.f0, (rd_T34 y218 0).f0.f1⟩ : S24), (rd_T34 y218 0).f1, (rd_T34 y218 0).f2, (rd_T34 y218 0).f3, (rd_T34 y218 0).f4⟩ : S34), (⟨(⟨(rd_T34 y218 3).f0.f0, (rd_T34 y218 3).f0.f1⟩ : S24), (rd_T34 y218 3).f1, (rd_T34 y218 3).f2, (rd_T34 y218 3).f3, (rd_T34 y218 3).f4⟩ : S34), (⟨(⟨(rd_T34 y218 1).f0.f0, (rd_T34 y218 1).f0.f1⟩ : S24), (rd_T34 y218 1).f1, (rd_T34 y218 1).f2, (rd_T34 y218 1).f3, (rd_T34 y218 1).f4⟩ : S34)] : List (S34)) : List (S34))).bind fun y225 => ((rank_Place.f y218 0 0).bind fun bt228 => ((rank_Place.f y218 1 0).bind fun bt230 => ((rank_Sort.f y218).bind fun t232 => ((watchmanref07_Same.f k t232 y225).bind fun t235 => (if t235 = true then ((rank_Top.f 2 y218).bind fun t236 => (if 2 ≤ (y225.length : Int) then ((watchmanref07_Same.f k t236 (y225.take 2)).bind fun t243 => (if t243 = true then ((rank_Top.f 0 y218).bind fun t244 => (if (t244.length : Int) = 0 then (if bt228.2 = true then (if bt228.1 = 0 then (if bt230.2 = true then (none) else ((rank_Compare.f ((rd_T34 y218 0).f0.f0) ((rd_T34 y218 0).f0.f1) ((rd_T34 y218 0).f1) ((rd_T34 y218 0).f2) ((rd_T34 y218 0).f3) ((rd_T34 y218 0).f4) ((rd_T34 y218 1).f0.f0) ((rd_T34 y218 1).f0.f1) ((rd_T34 y218 1).f1) ((rd_T34 y218 1).f2) ((rd_T34 y218 1).f3) ((rd_T34 y218 1).f4)).bind fun t249 => (if t249 = (-1) then (if 2 ≤ (y218.length : Int) then ((rank_Merge.f (y218.take 2) (y218.drop 2)).bind fun t258 => ((watchmanref07_Same.f k t258 y225).bind fun t261 => (some t261))) else (none)) else (none)))) else (none)) else (none)) else (none))) else (none))) else (none))) else (none))))))) else (none)) else (none)) else (none)) else (none)) = some r := by first | (rw [hy218]; with_reducible exact H) | (have H2_ := (Option.bind_some _ _).symm.trans H; rw [hy218]; with_reducible exact H2_) | (have H2_ := (Option.bind_some _ _).symm.trans H; with_reducible exact H2_) | with_reducible exact H | (rw [hy218]; exact H) | exact H
  have Ny218 := Aside0.mk hy218
  clear hy218
  by_cases c5 : 2 < (y218.length : Int)
  · rw [if_pos c5] at H
    have c5b0 : decide (2 < (y218.length : Int)) = true := decide_eq_true c5
    have c5b1 : decide (2 < y218.length) = true := decide_eq_true (by omega)
    clear c5
    by_cases c6 : 0 < (y218.length : Int)
    · rw [if_pos c6] at H
      have c6b0 : decide (0 < (y218.length : Int)) = true := decide_eq_true c6
      have c6b1 : decide (0 < y218.length) = true := decide_eq_true (by omega)
      clear c6
      by_cases c7 : 3 < (y218.length : Int)
      · rw [if_pos c7] at H
        have c7b0 : decide (3 < (y218.length : Int)) = true := decide_eq_true c7
        have c7b1 : decide (3 < y218.length) = true := decide_eq_true (by omega)
        clear c7
        by_cases c8 : 1 < (y218.length : Int)
        · rw [if_pos c8] at H
          have c8b0 : decide (1 < (y218.length : Int)) = true := decide_eq_true c8
          have c8b1 : decide (1 < y218.length) = true := decide_eq_true (by omega)
          clear c8
          obtain ⟨y225, hy225⟩ : ∃ y_ : List (S34), y_ = (([(⟨(⟨(rd_T34 y218 2).f0.f0, (rd_T34 y218 2).f0.f1⟩ : S24), (rd_T34 y218 2).f1, (rd_T34 y218 2).f2, (rd_T34 y218 2).f3, (rd_T34 y218 2).f4⟩ : S34), (⟨(⟨(rd_T34 y218 0).f0.f0, (rd_T34 y218 0).f0.f1⟩ : S24), (rd_T34 y218 0).f1, (rd_T34 y218 0).f2, (rd_T34 y218 0).f3, (rd_T34 y218 0).f4⟩ : S34), (⟨(⟨(rd_T34 y218 3).f0.f0, (rd_T34 y218 3).f0.f1⟩ : S24), (rd_T34 y218 3).f1, (rd_T34 y218 3).f2, (rd_T34 y218 3).f3, (rd_T34 y218 3).f4⟩ : S34), (⟨(⟨(rd_T34 y218 1).f0.f0, (rd_T34 y218 1).f0.f1⟩ : S24), (rd_T34 y218 1).f1, (rd_T34 y218 1).f2, (rd_T34 y218 1).f3, (rd_T34 y218 1).f4⟩ : S34)] : List (S34))) := ⟨_, rfl⟩
          replace H : ((rank_Place.f y218 0 0).bind fun bt228 => ((rank_Place.f y218 1 0).bind fun bt230 => ((rank_Sort.f y218).bind fun t232 => ((watchmanref07_Same.f k t232 y225).bind fun t235 => (if t235 = true then ((rank_Top.f 2 y218).bind fun t236 => (if 2 ≤ (y225.length : Int) then ((watchmanref07_Same.f k t236 (y225.take 2)).bind fun t243 => (if t243 = true then ((rank_Top.f 0 y218).bind fun t244 => (if (t244.length : Int) = 0 then (if bt228.2 = true then (if bt228.1 = 0 then (if bt230.2 = true then (none) else ((rank_Compare.f ((rd_T34 y218 0).f0.f0) ((rd_T34 y218 0).f0.f1) ((rd_T34 y218 0).f1) ((rd_T34 y218 0).f2) ((rd_T34 y218 0).f3) ((rd_T34 y218 0).f4) ((rd_T34 y218 1).f0.f0) ((rd_T34 y218 1).f0.f1) ((rd_T34 y218 1).f1) ((rd_T34 y218 1).f2) ((rd_T34 y218 1).f3) ((rd_T34 y218 1).f4)).bind fun t249 => (if t249 = (-1) then (if 2 ≤ (y218.length : Int) then ((rank_Merge.f (y218.take 2) (y218.drop 2)).bind fun t258 => ((watchmanref07_Same.f k t258 y225).bind fun t261 => (some t261))) else (none)) else (none)))) else (none)) else (none)) else (none))) else (none))) else (none))) else (none)))))) = some r := by first | (rw [hy225]; with_reducible exact H) | (have H2_ := (Option.bind_some _ _).symm.trans H; rw [hy225]; with_reducible exact H2_) | (have H2_ := (Option.bind_some _ _).symm.trans H; with_reducible exact H2_) | with_reducible exact H | (rw [hy225]; exact H) | exact H
          have Ny225 := Aside0.mk hy225
          clear hy225
          replace H := Option.bind_eq_some_iff.mp H
          obtain ⟨⟨t228, t229⟩, A90, H⟩ := H
          replace H : ((rank_Place.f y218 1 0).bind fun bt230 => ((rank_Sort.f y218).bind fun t232 => ((watchmanref07_Same.f k t232 y225).bind fun t235 => (if t235 = true then ((rank_Top.f 2 y218).bind fun t236 => (if 2 ≤ (y225.length : Int) then ((watchmanref07_Same.f k t236 (y225.take 2)).bind fun t243 => (if t243 = true then ((rank_Top.f 0 y218).bind fun t244 => (if (t244.length : Int) = 0 then (if t229 = true then (if t228 = 0 then (if bt230.2 = true then (none) else ((rank_Compare.f ((rd_T34 y218 0).f0.f0) ((rd_T34 y218 0).f0.f1) ((rd_T34 y218 0).f1) ((rd_T34 y218 0).f2) ((rd_T34 y218 0).f3) ((rd_T34 y218 0).f4) ((rd_T34 y218 1).f0.f0) ((rd_T34 y218 1).f0.f1) ((rd_T34 y218 1).f1) ((rd_T34 y218 1).f2) ((rd_T34 y218 1).f3) ((rd_T34 y218 1).f4)).bind fun t249 => (if t249 = (-1) then (if 2 ≤ (y218.length : Int) then ((rank_Merge.f (y218.take 2) (y218.drop 2)).bind fun t258 => ((watchmanref07_Same.f k t258 y225).bind fun t261 => (some t261))) else (none)) else (none)))) else (none)) else (none)) else (none))) else (none))) else (none))) else (none))))) = some r := H
          have A9 := Aside0.mk A90
          clear A90
          replace H := Option.bind_eq_some_iff.mp H
          obtain ⟨⟨t230, t231⟩, A100, H⟩ := H
          replace H : ((rank_Sort.f y218).bind fun t232 => ((watchmanref07_Same.f k t232 y225).bind fun t235 => (if t235 = true then ((rank_Top.f 2 y218).bind fun t236 => (if 2 ≤ (y225.length : Int) then ((watchmanref07_Same.f k t236 (y225.take 2)).bind fun t243 => (if t243 = true then ((rank_Top.f 0 y218).bind fun t244 => (if (t244.length : Int) = 0 then (if t229 = true then (if t228 = 0 then (if t231 = true then (none) else ((rank_Compare.f ((rd_T34 y218 0).f0.f0) ((rd_T34 y218 0).f0.f1) ((rd_T34 y218 0).f1) ((rd_T34 y218 0).f2) ((rd_T34 y218 0).f3) ((rd_T34 y218 0).f4) ((rd_T34 y218 1).f0.f0) ((rd_T34 y218 1).f0.f1) ((rd_T34 y218 1).f1) ((rd_T34 y218 1).f2) ((rd_T34 y218 1).f3) ((rd_T34 y218 1).f4)).bind fun t249 => (if t249 = (-1) then (if 2 ≤ (y218.length : Int) then ((rank_Merge.f (y218.take 2) (y218.drop 2)).bind fun t258 => ((watchmanref07_Same.f k t258 y225).bind fun t261 => (some t261))) else (none)) else (none)))) else (none)) else (none)) else (none))) else (none))) else (none))) else (none)))) = some r := H
          have A10 := Aside0.mk A100
          clear A100
          replace H := Option.bind_eq_some_iff.mp H
          obtain ⟨t232, A110, H⟩ := H
          replace H : ((watchmanref07_Same.f k t232 y225).bind fun t235 => (if t235 = true then ((rank_Top.f 2 y218).bind fun t236 => (if 2 ≤ (y225.length : Int) then ((watchmanref07_Same.f k t236 (y225.take 2)).bind fun t243 => (if t243 = true then ((rank_Top.f 0 y218).bind fun t244 => (if (t244.length : Int) = 0 then (if t229 = true then (if t228 = 0 then (if t231 = true then (none) else ((rank_Compare.f ((rd_T34 y218 0).f0.f0) ((rd_T34 y218 0).f0.f1) ((rd_T34 y218 0).f1) ((rd_T34 y218 0).f2) ((rd_T34 y218 0).f3) ((rd_T34 y218 0).f4) ((rd_T34 y218 1).f0.f0) ((rd_T34 y218 1).f0.f1) ((rd_T34 y218 1).f1) ((rd_T34 y218 1).f2) ((rd_T34 y218 1).f3) ((rd_T34 y218 1).f4)).bind fun t249 => (if t249 = (-1) then (if 2 ≤ (y218.length : Int) then ((rank_Merge.f (y218.take 2) (y218.drop 2)).bind fun t258 => ((watchmanref07_Same.f k t258 y225).bind fun t261 => (some t261))) else (none)) else (none)))) else (none)) else (none)) else (none))) else (none))) else (none))) else (none))) = some r := H
          have A11 := Aside0.mk A110
          clear A110
          replace H := Option.bind_eq_some_iff.mp H
          obtain ⟨t235, A120, H⟩ := H
          replace H : (if t235 = true then ((rank_Top.f 2 y218).bind fun t236 => (if 2 ≤ (y225.length : Int) then ((watchmanref07_Same.f k t236 (y225.take 2)).bind fun t243 => (if t243 = true then ((rank_Top.f 0 y218).bind fun t244 => (if (t244.length : Int) = 0 then (if t229 = true then (if t228 = 0 then (if t231 = true then (none) else ((rank_Compare.f ((rd_T34 y218 0).f0.f0) ((rd_T34 y218 0).f0.f1) ((rd_T34 y218 0).f1) ((rd_T34 y218 0).f2) ((rd_T34 y218 0).f3) ((rd_T34 y218 0).f4) ((rd_T34 y218 1).f0.f0) ((rd_T34 y218 1).f0.f1) ((rd_T34 y218 1).f1) ((rd_T34 y218 1).f2) ((rd_T34 y218 1).f3) ((rd_T34 y218 1).f4)).bind fun t249 => (if t249 = (-1) then (if 2 ≤ (y218.length : Int) then ((rank_Merge.f (y218.take 2) (y218.drop 2)).bind fun t258 => ((watchmanref07_Same.f k t258 y225).bind fun t261 => (some t261))) else (none)) else (none)))) else (none)) else (none)) else (none))) else (none))) else (none))) else (none)) = some r := H
          have A12 := Aside0.mk A120
          clear A120
          by_cases c13 : t235 = true
          · subst c13
            have H1 : ((rank_Top.f 2 y218).bind fun t236 => (if 2 ≤ (y225.length : Int) then ((watchmanref07_Same.f k t236 (y225.take 2)).bind fun t243 => (if t243 = true then ((rank_Top.f 0 y218).bind fun t244 => (if (t244.length : Int) = 0 then (if t229 = true then (if t228 = 0 then (if t231 = true then (none) else ((rank_Compare.f ((rd_T34 y218 0).f0.f0) ((rd_T34 y218 0).f0.f1) ((rd_T34 y218 0).f1) ((rd_T34 y218 0).f2) ((rd_T34 y218 0).f3) ((rd_T34 y218 0).f4) ((rd_T34 y218 1).f0.f0) ((rd_T34 y218 1).f0.f1) ((rd_T34 y218 1).f1) ((rd_T34 y218 1).f2) ((rd_T34 y218 1).f3) ((rd_T34 y218 1).f4)).bind fun t249 => (if t249 = (-1) then (if 2 ≤ (y218.length : Int) then ((rank_Merge.f (y218.take 2) (y218.drop 2)).bind fun t258 => ((watchmanref07_Same.f k t258 y225).bind fun t261 => (some t261))) else (none)) else (none)))) else (none)) else (none)) else (none))) else (none))) else (none))) = some r := by rw [if_pos rfl] at H; exact H
            clear H
            have H := H1
            clear H1
            replace H := Option.bind_eq_some_iff.mp H
            obtain ⟨t236, A140, H⟩ := H
            replace H : (if 2 ≤ (y225.length : Int) then ((watchmanref07_Same.f k t236 (y225.take 2)).bind fun t243 => (if t243 = true then ((rank_Top.f 0 y218).bind fun t244 => (if (t244.length : Int) = 0 then (if t229 = true then (if t228 = 0 then (if t231 = true then (none) else ((rank_Compare.f ((rd_T34 y218 0).f0.f0) ((rd_T34 y218 0).f0.f1) ((rd_T34 y218 0).f1) ((rd_T34 y218 0).f2) ((rd_T34 y218 0).f3) ((rd_T34 y218 0).f4) ((rd_T34 y218 1).f0.f0) ((rd_T34 y218 1).f0.f1) ((rd_T34 y218 1).f1) ((rd_T34 y218 1).f2) ((rd_T34 y218 1).f3) ((rd_T34 y218 1).f4)).bind fun t249 => (if t249 = (-1) then (if 2 ≤ (y218.length : Int) then ((rank_Merge.f (y218.take 2) (y218.drop 2)).bind fun t258 => ((watchmanref07_Same.f k t258 y225).bind fun t261 => (some t261))) else (none)) else (none)))) else (none)) else (none)) else (none))) else (none))) else (none)) = some r := H
            have A14 := Aside0.mk A140
            clear A140
            by_cases c15 : 2 ≤ (y225.length : Int)
            · rw [if_pos c15] at H
              have c15b0 := eq_true c15
              have c15b1 : decide (2 ≤ (y225.length : Int)) = true := decide_eq_true c15
              clear c15
              obtain ⟨y239, hy239⟩ : ∃ y_ : List (S34), y_ = (y225.take 2) := ⟨_, rfl⟩
              replace H : ((watchmanref07_Same.f k t236 y239).bind fun t243 => (if t243 = true then ((rank_Top.f 0 y218).bind fun t244 => (if (t244.length : Int) = 0 then (if t229 = true then (if t228 = 0 then (if t231 = true then (none) else ((rank_Compare.f ((rd_T34 y218 0).f0.f0) ((rd_T34 y218 0).f0.f1) ((rd_T34 y218 0).f1) ((rd_T34 y218 0).f2) ((rd_T34 y218 0).f3) ((rd_T34 y218 0).f4) ((rd_T34 y218 1).f0.f0) ((rd_T34 y218 1).f0.f1) ((rd_T34 y218 1).f1) ((rd_T34 y218 1).f2) ((rd_T34 y218 1).f3) ((rd_T34 y218 1).f4)).bind fun t249 => (if t249 = (-1) then (if 2 ≤ (y218.length : Int) then ((rank_Merge.f (y218.take 2) (y218.drop 2)).bind fun t258 => ((watchmanref07_Same.f k t258 y225).bind fun t261 => (some t261))) else (none)) else (none)))) else (none)) else (none)) else (none))) else (none))) = some r := by first | (rw [hy239]; with_reducible exact H) | (have H2_ := (Option.bind_some _ _).symm.trans H; rw [hy239]; with_reducible exact H2_) | (have H2_ := (Option.bind_some _ _).symm.trans H; with_reducible exact H2_) | with_reducible exact H | (rw [hy239]; exact H) | exact H
              have Ny239 := Aside0.mk hy239
              clear hy239
              replace H := Option.bind_eq_some_iff.mp H
              obtain ⟨t243, A160, H⟩ := H
              replace H : (if t243 = true then ((rank_Top.f 0 y218).bind fun t244 => (if (t244.length : Int) = 0 then (if t229 = true then (if t228 = 0 then (if t231 = true then (none) else ((rank_Compare.f ((rd_T34 y218 0).f0.f0) ((rd_T34 y218 0).f0.f1) ((rd_T34 y218 0).f1) ((rd_T34 y218 0).f2) ((rd_T34 y218 0).f3) ((rd_T34 y218 0).f4) ((rd_T34 y218 1).f0.f0) ((rd_T34 y218 1).f0.f1) ((rd_T34 y218 1).f1) ((rd_T34 y218 1).f2) ((rd_T34 y218 1).f3) ((rd_T34 y218 1).f4)).bind fun t249 => (if t249 = (-1) then (if 2 ≤ (y218.length : Int) then ((rank_Merge.f (y218.take 2) (y218.drop 2)).bind fun t258 => ((watchmanref07_Same.f k t258 y225).bind fun t261 => (some t261))) else (none)) else (none)))) else (none)) else (none)) else (none))) else (none)) = some r := H
              have A16 := Aside0.mk A160
              clear A160
              by_cases c17 : t243 = true
              · subst c17
                have H1 : ((rank_Top.f 0 y218).bind fun t244 => (if (t244.length : Int) = 0 then (if t229 = true then (if t228 = 0 then (if t231 = true then (none) else ((rank_Compare.f ((rd_T34 y218 0).f0.f0) ((rd_T34 y218 0).f0.f1) ((rd_T34 y218 0).f1) ((rd_T34 y218 0).f2) ((rd_T34 y218 0).f3) ((rd_T34 y218 0).f4) ((rd_T34 y218 1).f0.f0) ((rd_T34 y218 1).f0.f1) ((rd_T34 y218 1).f1) ((rd_T34 y218 1).f2) ((rd_T34 y218 1).f3) ((rd_T34 y218 1).f4)).bind fun t249 => (if t249 = (-1) then (if 2 ≤ (y218.length : Int) then ((rank_Merge.f (y218.take 2) (y218.drop 2)).bind fun t258 => ((watchmanref07_Same.f k t258 y225).bind fun t261 => (some t261))) else (none)) else (none)))) else (none)) else (none)) else (none))) = some r := by rw [if_pos rfl] at H; exact H
                clear H
                have H := H1
                clear H1
                replace H := Option.bind_eq_some_iff.mp H
                obtain ⟨t244, A180, H⟩ := H
                replace H : (if (t244.length : Int) = 0 then (if t229 = true then (if t228 = 0 then (if t231 = true then (none) else ((rank_Compare.f ((rd_T34 y218 0).f0.f0) ((rd_T34 y218 0).f0.f1) ((rd_T34 y218 0).f1) ((rd_T34 y218 0).f2) ((rd_T34 y218 0).f3) ((rd_T34 y218 0).f4) ((rd_T34 y218 1).f0.f0) ((rd_T34 y218 1).f0.f1) ((rd_T34 y218 1).f1) ((rd_T34 y218 1).f2) ((rd_T34 y218 1).f3) ((rd_T34 y218 1).f4)).bind fun t249 => (if t249 = (-1) then (if 2 ≤ (y218.length : Int) then ((rank_Merge.f (y218.take 2) (y218.drop 2)).bind fun t258 => ((watchmanref07_Same.f k t258 y225).bind fun t261 => (some t261))) else (none)) else (none)))) else (none)) else (none)) else (none)) = some r := H
                have A18 := Aside0.mk A180
                clear A180
                by_cases c19 : (t244.length : Int) = 0
                · rw [if_pos c19] at H
                  have c19b0 : ((t244.length : Int) == 0) = true := beq_iff_eq.mpr c19
                  have c19b1 : ((t244.length : Int) != 0) = false := bne_eq_false_iff_eq.mpr c19
                  clear c19
                  by_cases c20 : t229 = true
                  · subst c20
                    have H1 : (if t228 = 0 then (if t231 = true then (none) else ((rank_Compare.f ((rd_T34 y218 0).f0.f0) ((rd_T34 y218 0).f0.f1) ((rd_T34 y218 0).f1) ((rd_T34 y218 0).f2) ((rd_T34 y218 0).f3) ((rd_T34 y218 0).f4) ((rd_T34 y218 1).f0.f0) ((rd_T34 y218 1).f0.f1) ((rd_T34 y218 1).f1) ((rd_T34 y218 1).f2) ((rd_T34 y218 1).f3) ((rd_T34 y218 1).f4)).bind fun t249 => (if t249 = (-1) then (if 2 ≤ (y218.length : Int) then ((rank_Merge.f (y218.take 2) (y218.drop 2)).bind fun t258 => ((watchmanref07_Same.f k t258 y225).bind fun t261 => (some t261))) else (none)) else (none)))) else (none)) = some r := by rw [if_pos rfl] at H; exact H
                    clear H
                    have H := H1
                    clear H1
                    by_cases c21 : t228 = 0
                    · rw [if_pos c21] at H
                      have c21b0 : (t228 == 0) = true := beq_iff_eq.mpr c21
                      have c21b1 : (t228 != 0) = false := bne_eq_false_iff_eq.mpr c21
                      clear c21
                      by_cases c22 : t231 = true
                      · subst c22
                        have H1 : (none) = some r := by rw [if_pos rfl] at H; exact H
                        clear H
                        have H := H1
                        clear H1
                        exact absurd H (by simp)
                      · replace c22 := Bool.eq_false_iff.mpr c22
                        subst c22
                        have H1 : ((rank_Compare.f ((rd_T34 y218 0).f0.f0) ((rd_T34 y218 0).f0.f1) ((rd_T34 y218 0).f1) ((rd_T34 y218 0).f2) ((rd_T34 y218 0).f3) ((rd_T34 y218 0).f4) ((rd_T34 y218 1).f0.f0) ((rd_T34 y218 1).f0.f1) ((rd_T34 y218 1).f1) ((rd_T34 y218 1).f2) ((rd_T34 y218 1).f3) ((rd_T34 y218 1).f4)).bind fun t249 => (if t249 = (-1) then (if 2 ≤ (y218.length : Int) then ((rank_Merge.f (y218.take 2) (y218.drop 2)).bind fun t258 => ((watchmanref07_Same.f k t258 y225).bind fun t261 => (some t261))) else (none)) else (none))) = some r := by rw [if_neg (show ¬ (false = true) by decide)] at H; exact H
                        clear H
                        have H := H1
                        clear H1
                        replace H := Option.bind_eq_some_iff.mp H
                        obtain ⟨t249, A230, H⟩ := H
                        replace H : (if t249 = (-1) then (if 2 ≤ (y218.length : Int) then ((rank_Merge.f (y218.take 2) (y218.drop 2)).bind fun t258 => ((watchmanref07_Same.f k t258 y225).bind fun t261 => (some t261))) else (none)) else (none)) = some r := H
                        have A23 := Aside0.mk A230
                        clear A230
                        by_cases c24 : t249 = (-1)
                        · rw [if_pos c24] at H
                          have c24b0 : (t249 == (-1)) = true := beq_iff_eq.mpr c24
                          have c24b1 : (t249 != (-1)) = false := bne_eq_false_iff_eq.mpr c24
                          clear c24
                          by_cases c25 : 2 ≤ (y218.length : Int)
                          · rw [if_pos c25] at H
                            have c25b0 := eq_true c25
                            have c25b1 : decide (2 ≤ (y218.length : Int)) = true := decide_eq_true c25
                            clear c25
                            obtain ⟨y250, hy250⟩ : ∃ y_ : List (S34), y_ = (y218.take 2) := ⟨_, rfl⟩
                            replace H : ((rank_Merge.f y250 (y218.drop 2)).bind fun t258 => ((watchmanref07_Same.f k t258 y225).bind fun t261 => (some t261))) = some r := by first | (rw [hy250]; with_reducible exact H) | (have H2_ := (Option.bind_some _ _).symm.trans H; rw [hy250]; with_reducible exact H2_) | (have H2_ := (Option.bind_some _ _).symm.trans H; with_reducible exact H2_) | with_reducible exact H | (rw [hy250]; exact H) | exact H
                            have Ny250 := Aside0.mk hy250
                            clear hy250
                            have c26b0 := eq_true (of_decide_eq_true (by first | (with_reducible assumption) | assumption) : 2 ≤ (y218.length : Int))
                            obtain ⟨y254, hy254⟩ : ∃ y_ : List (S34), y_ = (y218.drop 2) := ⟨_, rfl⟩
                            replace H : ((rank_Merge.f y250 y254).bind fun t258 => ((watchmanref07_Same.f k t258 y225).bind fun t261 => (some t261))) = some r := by first | (rw [hy254]; with_reducible exact H) | (have H2_ := (Option.bind_some _ _).symm.trans H; rw [hy254]; with_reducible exact H2_) | (have H2_ := (Option.bind_some _ _).symm.trans H; with_reducible exact H2_) | with_reducible exact H | (rw [hy254]; exact H) | exact H
                            have Ny254 := Aside0.mk hy254
                            clear hy254
                            replace H := Option.bind_eq_some_iff.mp H
                            obtain ⟨t258, A270, H⟩ := H
                            replace H : ((watchmanref07_Same.f k t258 y225).bind fun t261 => (some t261)) = some r := H
                            have A27 := Aside0.mk A270
                            clear A270
                            replace H := Option.bind_eq_some_iff.mp H
                            obtain ⟨t261, A280, H⟩ := H
                            replace H : (some t261) = some r := H
                            have A28 := Aside0.mk A280
                            clear A280
                            obtain rfl := Option.some.inj H
                            go_enter Try.func21, Try.ntmps21
                            try go_wp2_with (first | ((with_reducible refine gate_callee (f := 29) rfl ?_); refine goesL_ (some 7) rfl rfl Try.func29 (by kernel_rfl) rfl #[.int .i64 1, .int .i64 1, .int .i64 5] rfl (by (try simp only [List.map_toArray, List.map_cons, List.map_nil]); first | done | rfl | (simp only [List.length_drop, List.length_take]; rfl) | (have qy239 : y239.length = 2 := (by (rw [Ny239.out, List.length_take]; have := of_decide_eq_true c15b1; omega));  simp only [qy239] <;> rfl)) ?_; (with_reducible refine (watchmanlaw07_one.calls 1 1 5 t194 t195 t196 t197 t198 t199 _ A1.out).mono ?_); rintro e w29 ⟨rfl, hb⟩; refine ⟨_, rfl, ?_⟩; have n0_ := Aside0.mk (below_step (by repeat (first | (with_reducible first | exact HB.out | apply below_alloc | apply pw_below_drewN | apply below_drew1) | exact HB.out)) hb); clear HB; have HB := n0_; clear n0_; (try clear hb); (try clear hb2); (try clear hk); (try clear hi)) | ((with_reducible refine gate_callee (f := 29) rfl ?_); refine goesL_ (some 8) rfl rfl Try.func29 (by kernel_rfl) rfl #[.int .i64 3, .int .i64 1, .int .i64 0] rfl (by (try simp only [List.map_toArray, List.map_cons, List.map_nil]); first | done | rfl | (simp only [List.length_drop, List.length_take]; rfl) | (have qy239 : y239.length = 2 := (by (rw [Ny239.out, List.length_take]; have := of_decide_eq_true c15b1; omega));  simp only [qy239] <;> rfl)) ?_; (with_reducible refine (watchmanlaw07_one.calls 3 1 0 t200 t201 t202 t203 t204 t205 _ A2.out).mono ?_); rintro e w30 ⟨rfl, hb⟩; refine ⟨_, rfl, ?_⟩; have n0_ := Aside0.mk (below_step (by repeat (first | (with_reducible first | exact HB.out | apply below_alloc | apply pw_below_drewN | apply below_drew1) | exact HB.out)) hb); clear HB; have HB := n0_; clear n0_; (try clear hb); (try clear hb2); (try clear hk); (try clear hi)) | ((with_reducible refine gate_callee (f := 29) rfl ?_); refine goesL_ (some 9) rfl rfl Try.func29 (by kernel_rfl) rfl #[.int .i64 2, .int .i64 3, .int .i64 9] rfl (by (try simp only [List.map_toArray, List.map_cons, List.map_nil]); first | done | rfl | (simp only [List.length_drop, List.length_take]; rfl) | (have qy239 : y239.length = 2 := (by (rw [Ny239.out, List.length_take]; have := of_decide_eq_true c15b1; omega));  simp only [qy239] <;> rfl)) ?_; (with_reducible refine (watchmanlaw07_one.calls 2 3 9 t206 t207 t208 t209 t210 t211 _ A3.out).mono ?_); rintro e w31 ⟨rfl, hb⟩; refine ⟨_, rfl, ?_⟩; have n0_ := Aside0.mk (below_step (by repeat (first | (with_reducible first | exact HB.out | apply below_alloc | apply pw_below_drewN | apply below_drew1) | exact HB.out)) hb); clear HB; have HB := n0_; clear n0_; (try clear hb); (try clear hb2); (try clear hk); (try clear hi)) | ((with_reducible refine gate_callee (f := 29) rfl ?_); refine goesL_ (some 10) rfl rfl Try.func29 (by kernel_rfl) rfl #[.int .i64 1, .int .i64 2, .int .i64 1] rfl (by (try simp only [List.map_toArray, List.map_cons, List.map_nil]); first | done | rfl | (simp only [List.length_drop, List.length_take]; rfl) | (have qy239 : y239.length = 2 := (by (rw [Ny239.out, List.length_take]; have := of_decide_eq_true c15b1; omega));  simp only [qy239] <;> rfl)) ?_; (with_reducible refine (watchmanlaw07_one.calls 1 2 1 t212 t213 t214 t215 t216 t217 _ A4.out).mono ?_); rintro e w32 ⟨rfl, hb⟩; refine ⟨_, rfl, ?_⟩; have n0_ := Aside0.mk (below_step (by repeat (first | (with_reducible first | exact HB.out | apply below_alloc | apply pw_below_drewN | apply below_drew1) | exact HB.out)) hb); clear HB; have HB := n0_; clear n0_; (try clear hb); (try clear hb2); (try clear hk); (try clear hi)) | ((with_reducible refine gate_dst (N := 11) rfl ?_); (try (refine gate_guard (by rfl) ?_; dsimp only)); refine Kd.R_lit k34 _ 34 ?hg (N := 11) ?hd (xs := ([(⟨(⟨t194, t195⟩ : S24), t196, t197, t198, t199⟩ : S34), (⟨(⟨t200, t201⟩ : S24), t202, t203, t204, t205⟩ : S34), (⟨(⟨t206, t207⟩ : S24), t208, t209, t210, t211⟩ : S34), (⟨(⟨t212, t213⟩ : S24), t214, t215, t216, t217⟩ : S34)] : List (S34))) (inner := [.int .i64 t194, .int .i64 t195, .int .i64 t196, .int .i64 t197, .int .i64 t198, .int .i64 t199, .int .i64 t200, .int .i64 t201, .int .i64 t202, .int .i64 t203, .int .i64 t204, .int .i64 t205, .int .i64 t206, .int .i64 t207, .int .i64 t208, .int .i64 t209, .int .i64 t210, .int .i64 t211, .int .i64 t212, .int .i64 t213, .int .i64 t214, .int .i64 t215, .int .i64 t216, .int .i64 t217]) (ok := fun _ => True) (okp := fun _ => True) ?hr ?hp (fun _ hk => hk) trivial (Below.refl _ _) (Nat.le_refl _) (by simp) ?_; (case hd => rfl); (case hg => rfl); (case hr => first | (go_simp; done) | (go_simp; rfl)); (case hp => exact (Reps.c6 (show Kd.M k34 _ _ _ (⟨(⟨t194, t195⟩ : S24), t196, t197, t198, t199⟩ : S34) [.int .i64 t194, .int .i64 t195, .int .i64 t196, .int .i64 t197, .int .i64 t198, .int .i64 t199] from (k34_mkM _ _ _ (⟨(⟨t194, t195⟩ : S24), t196, t197, t198, t199⟩ : S34) )) (Reps.c6 (show Kd.M k34 _ _ _ (⟨(⟨t200, t201⟩ : S24), t202, t203, t204, t205⟩ : S34) [.int .i64 t200, .int .i64 t201, .int .i64 t202, .int .i64 t203, .int .i64 t204, .int .i64 t205] from (k34_mkM _ _ _ (⟨(⟨t200, t201⟩ : S24), t202, t203, t204, t205⟩ : S34) )) (Reps.c6 (show Kd.M k34 _ _ _ (⟨(⟨t206, t207⟩ : S24), t208, t209, t210, t211⟩ : S34) [.int .i64 t206, .int .i64 t207, .int .i64 t208, .int .i64 t209, .int .i64 t210, .int .i64 t211] from (k34_mkM _ _ _ (⟨(⟨t206, t207⟩ : S24), t208, t209, t210, t211⟩ : S34) )) (Reps.c6 (show Kd.M k34 _ _ _ (⟨(⟨t212, t213⟩ : S24), t214, t215, t216, t217⟩ : S34) [.int .i64 t212, .int .i64 t213, .int .i64 t214, .int .i64 t215, .int .i64 t216, .int .i64 t217] from (k34_mkM _ _ _ (⟨(⟨t212, t213⟩ : S24), t214, t215, t216, t217⟩ : S34) )) (Reps.none _ _)))))); intro v219 w33 ho34 hb hg_ hnew_; clear hg_ hnew_; (first | rw [← Ny218.out] at ho34 | (simp only [Int.reduceToNat] at ho34; rw [← Ny218.out] at ho34)); have n0_ := Aside0.mk (Kd.R_lower ho34 (below_size (by repeat (first | (with_reducible first | exact HB.out | apply below_alloc | apply pw_below_drewN | apply below_drew1) | exact HB.out)))); have n1_ := Aside0.mk (below_step (by repeat (first | (with_reducible first | exact HB.out | apply below_alloc | apply pw_below_drewN | apply below_drew1) | exact HB.out)) hb); clear HB; have HO220 := n0_; have HB := n1_; clear n0_ n1_; clear hb ho34))
                            have n0_ := Aside0.mk (Kd.R_drew HO220.out)
                            have n1_ := Aside0.mk (below_drew1 HB.out)
                            clear HO220
                            clear HB
                            have HO220 := n0_
                            have HB := n1_
                            clear n0_ n1_
                            obtain ⟨Ao36, co36, eo36⟩ := Kd.R_slice HO220.out
                            (first | subst eo36 | (injection eo36 with f1_ f2_ f3_; have f4_ := f1_.symm; have f5_ := f3_.symm; clear f1_ f2_ f3_; subst f4_; subst f5_))
                            have p221 : 0 ≤ (2 : Int) := (by omega)
                            have q221 : 2 < (y218.length : Int) := of_decide_eq_true (by first | (with_reducible assumption) | assumption)
                            obtain ⟨ad221, e221, hx221_0, hx221_1, hx221_2, hx221_3, hx221_4, hx221_5⟩ := at_T34 (Kd.R_reads' HO220.out).2.2 2 p221 q221
                            cases e221
                            (try simp only [show (2 : Int).toNat = 2 from rfl, Nat.reduceMul, Nat.reduceEqDiff, Go.Addr.add, ↓reduceIte] at hx221_0)
                            (try simp only [show (2 : Int).toNat = 2 from rfl, Nat.reduceMul, Nat.reduceEqDiff, Go.Addr.add, ↓reduceIte] at hx221_1)
                            (try simp only [show (2 : Int).toNat = 2 from rfl, Nat.reduceMul, Nat.reduceEqDiff, Go.Addr.add, ↓reduceIte] at hx221_2)
                            (try simp only [show (2 : Int).toNat = 2 from rfl, Nat.reduceMul, Nat.reduceEqDiff, Go.Addr.add, ↓reduceIte] at hx221_3)
                            (try simp only [show (2 : Int).toNat = 2 from rfl, Nat.reduceMul, Nat.reduceEqDiff, Go.Addr.add, ↓reduceIte] at hx221_4)
                            (try simp only [show (2 : Int).toNat = 2 from rfl, Nat.reduceMul, Nat.reduceEqDiff, Go.Addr.add, ↓reduceIte] at hx221_5)
                            have qi221 : (2 < y218.length) = True := eq_true (by omega)
                            (try rw [show ((2 : Int)).toNat = 2 from rfl] at hx221_0)
                            (try rw [show 2 * 6 = 12 from rfl] at hx221_0)
                            (try rw [show ((2 : Int)).toNat = 2 from rfl] at hx221_1)
                            (try rw [show 2 * 6 = 12 from rfl] at hx221_1)
                            (try rw [show ((2 : Int)).toNat = 2 from rfl] at hx221_2)
                            (try rw [show 2 * 6 = 12 from rfl] at hx221_2)
                            (try rw [show ((2 : Int)).toNat = 2 from rfl] at hx221_3)
                            (try rw [show 2 * 6 = 12 from rfl] at hx221_3)
                            (try rw [show ((2 : Int)).toNat = 2 from rfl] at hx221_4)
                            (try rw [show 2 * 6 = 12 from rfl] at hx221_4)
                            (try rw [show ((2 : Int)).toNat = 2 from rfl] at hx221_5)
                            (try rw [show 2 * 6 = 12 from rfl] at hx221_5)
                            replace p221 := eq_true p221
                            replace q221 := eq_true q221
                            have p222 : 0 ≤ (0 : Int) := (by omega)
                            have q222 : 0 < (y218.length : Int) := of_decide_eq_true (by first | (with_reducible assumption) | assumption)
                            obtain ⟨ad222, e222, hx222_0, hx222_1, hx222_2, hx222_3, hx222_4, hx222_5⟩ := at_T34 (Kd.R_reads' HO220.out).2.2 0 p222 q222
                            obtain rfl : ad221 = ad222 := (by injection e222)
                            have qi222 : (0 < y218.length) = True := eq_true (by omega)
                            (try rw [show ((0 : Int)).toNat = 0 from rfl] at hx222_0)
                            (try rw [show 0 * 6 = 0 from rfl] at hx222_0)
                            (try rw [Addr.add_zero'] at hx222_0)
                            (try rw [show ((0 : Int)).toNat = 0 from rfl] at hx222_1)
                            (try rw [show 0 * 6 = 0 from rfl] at hx222_1)
                            (try rw [Addr.add_zero'] at hx222_1)
                            (try rw [show ((0 : Int)).toNat = 0 from rfl] at hx222_2)
                            (try rw [show 0 * 6 = 0 from rfl] at hx222_2)
                            (try rw [Addr.add_zero'] at hx222_2)
                            (try rw [show ((0 : Int)).toNat = 0 from rfl] at hx222_3)
                            (try rw [show 0 * 6 = 0 from rfl] at hx222_3)
                            (try rw [Addr.add_zero'] at hx222_3)
                            (try rw [show ((0 : Int)).toNat = 0 from rfl] at hx222_4)
                            (try rw [show 0 * 6 = 0 from rfl] at hx222_4)
                            (try rw [Addr.add_zero'] at hx222_4)
                            (try rw [show ((0 : Int)).toNat = 0 from rfl] at hx222_5)
                            (try rw [show 0 * 6 = 0 from rfl] at hx222_5)
                            (try rw [Addr.add_zero'] at hx222_5)
                            replace p222 := eq_true p222
                            replace q222 := eq_true q222
                            have p223 : 0 ≤ (3 : Int) := (by omega)
                            have q223 : 3 < (y218.length : Int) := of_decide_eq_true (by first | (with_reducible assumption) | assumption)
                            obtain ⟨ad223, e223, hx223_0, hx223_1, hx223_2, hx223_3, hx223_4, hx223_5⟩ := at_T34 (Kd.R_reads' HO220.out).2.2 3 p223 q223
                            obtain rfl : ad221 = ad223 := (by injection e223)
                            (try simp only [show (3 : Int).toNat = 3 from rfl, Nat.reduceMul, Nat.reduceEqDiff, Go.Addr.add, ↓reduceIte] at hx223_0)
                            (try simp only [show (3 : Int).toNat = 3 from rfl, Nat.reduceMul, Nat.reduceEqDiff, Go.Addr.add, ↓reduceIte] at hx223_1)
                            (try simp only [show (3 : Int).toNat = 3 from rfl, Nat.reduceMul, Nat.reduceEqDiff, Go.Addr.add, ↓reduceIte] at hx223_2)
                            (try simp only [show (3 : Int).toNat = 3 from rfl, Nat.reduceMul, Nat.reduceEqDiff, Go.Addr.add, ↓reduceIte] at hx223_3)
                            (try simp only [show (3 : Int).toNat = 3 from rfl, Nat.reduceMul, Nat.reduceEqDiff, Go.Addr.add, ↓reduceIte] at hx223_4)
                            (try simp only [show (3 : Int).toNat = 3 from rfl, Nat.reduceMul, Nat.reduceEqDiff, Go.Addr.add, ↓reduceIte] at hx223_5)
                            have qi223 : (3 < y218.length) = True := eq_true (by omega)
                            (try rw [show ((3 : Int)).toNat = 3 from rfl] at hx223_0)
                            (try rw [show 3 * 6 = 18 from rfl] at hx223_0)
                            (try rw [show ((3 : Int)).toNat = 3 from rfl] at hx223_1)
                            (try rw [show 3 * 6 = 18 from rfl] at hx223_1)
                            (try rw [show ((3 : Int)).toNat = 3 from rfl] at hx223_2)
                            (try rw [show 3 * 6 = 18 from rfl] at hx223_2)
                            (try rw [show ((3 : Int)).toNat = 3 from rfl] at hx223_3)
                            (try rw [show 3 * 6 = 18 from rfl] at hx223_3)
                            (try rw [show ((3 : Int)).toNat = 3 from rfl] at hx223_4)
                            (try rw [show 3 * 6 = 18 from rfl] at hx223_4)
                            (try rw [show ((3 : Int)).toNat = 3 from rfl] at hx223_5)
                            (try rw [show 3 * 6 = 18 from rfl] at hx223_5)
                            replace p223 := eq_true p223
                            replace q223 := eq_true q223
                            have p224 : 0 ≤ (1 : Int) := (by omega)
                            have q224 : 1 < (y218.length : Int) := of_decide_eq_true (by first | (with_reducible assumption) | assumption)
                            obtain ⟨ad224, e224, hx224_0, hx224_1, hx224_2, hx224_3, hx224_4, hx224_5⟩ := at_T34 (Kd.R_reads' HO220.out).2.2 1 p224 q224
                            obtain rfl : ad221 = ad224 := (by injection e224)
                            (try simp only [show (1 : Int).toNat = 1 from rfl, Nat.reduceMul, Nat.reduceEqDiff, Go.Addr.add, ↓reduceIte] at hx224_0)
                            (try simp only [show (1 : Int).toNat = 1 from rfl, Nat.reduceMul, Nat.reduceEqDiff, Go.Addr.add, ↓reduceIte] at hx224_1)
                            (try simp only [show (1 : Int).toNat = 1 from rfl, Nat.reduceMul, Nat.reduceEqDiff, Go.Addr.add, ↓reduceIte] at hx224_2)
                            (try simp only [show (1 : Int).toNat = 1 from rfl, Nat.reduceMul, Nat.reduceEqDiff, Go.Addr.add, ↓reduceIte] at hx224_3)
                            (try simp only [show (1 : Int).toNat = 1 from rfl, Nat.reduceMul, Nat.reduceEqDiff, Go.Addr.add, ↓reduceIte] at hx224_4)
                            (try simp only [show (1 : Int).toNat = 1 from rfl, Nat.reduceMul, Nat.reduceEqDiff, Go.Addr.add, ↓reduceIte] at hx224_5)
                            have qi224 : (1 < y218.length) = True := eq_true (by omega)
                            (try rw [show ((1 : Int)).toNat = 1 from rfl] at hx224_0)
                            (try rw [show 1 * 6 = 6 from rfl] at hx224_0)
                            (try rw [show ((1 : Int)).toNat = 1 from rfl] at hx224_1)
                            (try rw [show 1 * 6 = 6 from rfl] at hx224_1)
                            (try rw [show ((1 : Int)).toNat = 1 from rfl] at hx224_2)
                            (try rw [show 1 * 6 = 6 from rfl] at hx224_2)
                            (try rw [show ((1 : Int)).toNat = 1 from rfl] at hx224_3)
                            (try rw [show 1 * 6 = 6 from rfl] at hx224_3)
                            (try rw [show ((1 : Int)).toNat = 1 from rfl] at hx224_4)
                            (try rw [show 1 * 6 = 6 from rfl] at hx224_4)
                            (try rw [show ((1 : Int)).toNat = 1 from rfl] at hx224_5)
                            (try rw [show 1 * 6 = 6 from rfl] at hx224_5)
                            replace p224 := eq_true p224
                            replace q224 := eq_true q224
                            refine start_ (n := 14) (S := fun w' => w'.cell? ⟨ad221.block, ad221.off + 12, none⟩ = some (.int .i64 ((rd_T34 y218 2).f0.f0)) ∧ w'.cell? ⟨ad221.block, ad221.off + 12 + 1, none⟩ = some (.int .i64 ((rd_T34 y218 2).f0.f1)) ∧ w'.cell? ⟨ad221.block, ad221.off + 12 + 2, none⟩ = some (.int .i64 ((rd_T34 y218 2).f1)) ∧ w'.cell? ⟨ad221.block, ad221.off + 12 + 3, none⟩ = some (.int .i64 ((rd_T34 y218 2).f2)) ∧ w'.cell? ⟨ad221.block, ad221.off + 12 + 4, none⟩ = some (.int .i64 ((rd_T34 y218 2).f3)) ∧ w'.cell? ⟨ad221.block, ad221.off + 12 + 5, none⟩ = some (.int .i64 ((rd_T34 y218 2).f4)) ∧ w'.cell? ad221 = some (.int .i64 ((rd_T34 y218 0).f0.f0)) ∧ w'.cell? ⟨ad221.block, ad221.off + 1, none⟩ = some (.int .i64 ((rd_T34 y218 0).f0.f1)) ∧ w'.cell? ⟨ad221.block, ad221.off + 2, none⟩ = some (.int .i64 ((rd_T34 y218 0).f1)) ∧ w'.cell? ⟨ad221.block, ad221.off + 3, none⟩ = some (.int .i64 ((rd_T34 y218 0).f2)) ∧ w'.cell? ⟨ad221.block, ad221.off + 4, none⟩ = some (.int .i64 ((rd_T34 y218 0).f3)) ∧ w'.cell? ⟨ad221.block, ad221.off + 5, none⟩ = some (.int .i64 ((rd_T34 y218 0).f4)) ∧ w'.cell? ⟨ad221.block, ad221.off + 18, none⟩ = some (.int .i64 ((rd_T34 y218 3).f0.f0)) ∧ w'.cell? ⟨ad221.block, ad221.off + 18 + 1, none⟩ = some (.int .i64 ((rd_T34 y218 3).f0.f1)) ∧ w'.cell? ⟨ad221.block, ad221.off + 18 + 2, none⟩ = some (.int .i64 ((rd_T34 y218 3).f1)) ∧ w'.cell? ⟨ad221.block, ad221.off + 18 + 3, none⟩ = some (.int .i64 ((rd_T34 y218 3).f2)) ∧ w'.cell? ⟨ad221.block, ad221.off + 18 + 4, none⟩ = some (.int .i64 ((rd_T34 y218 3).f3)) ∧ w'.cell? ⟨ad221.block, ad221.off + 18 + 5, none⟩ = some (.int .i64 ((rd_T34 y218 3).f4)) ∧ w'.cell? ⟨ad221.block, ad221.off + 6, none⟩ = some (.int .i64 ((rd_T34 y218 1).f0.f0)) ∧ w'.cell? ⟨ad221.block, ad221.off + 6 + 1, none⟩ = some (.int .i64 ((rd_T34 y218 1).f0.f1)) ∧ w'.cell? ⟨ad221.block, ad221.off + 6 + 2, none⟩ = some (.int .i64 ((rd_T34 y218 1).f1)) ∧ w'.cell? ⟨ad221.block, ad221.off + 6 + 3, none⟩ = some (.int .i64 ((rd_T34 y218 1).f2)) ∧ w'.cell? ⟨ad221.block, ad221.off + 6 + 4, none⟩ = some (.int .i64 ((rd_T34 y218 1).f3)) ∧ w'.cell? ⟨ad221.block, ad221.off + 6 + 5, none⟩ = some (.int .i64 ((rd_T34 y218 1).f4))) (ds := []) #[false, false, false, false, false, false, false, false, false, false, false, false, false, false] (by kernel_rfl) rfl rfl ⟨hx221_0, hx221_1, hx221_2, hx221_3, hx221_4, hx221_5, hx222_0, hx222_1, hx222_2, hx222_3, hx222_4, hx222_5, hx223_0, hx223_1, hx223_2, hx223_3, hx223_4, hx223_5, hx224_0, hx224_1, hx224_2, hx224_3, hx224_4, hx224_5⟩ (fun hHeld => ?_); refine with_tabW watchmanlaw07_ranked.tab2 watchmanlaw07_ranked.bits2 (fun HT_ HW_ => ?_)
                            generalize w33.drew = w35 at HO220 HB hx221_0 hx221_1 hx221_2 hx221_3 hx221_4 hx221_5 hx222_0 hx222_1 hx222_2 hx222_3 hx222_4 hx222_5 hx223_0 hx223_1 hx223_2 hx223_3 hx223_4 hx223_5 hx224_0 hx224_1 hx224_2 hx224_3 hx224_4 hx224_5 hHeld ⊢
                            refine pure_ (i := 0) (N := some 12) (v := ?_) (a' := ?_) #[true, false, false, false, false, false, false, false, false, false, false, false, false, false] rfl rfl (any_of HT_.out (by kernel_rfl)) (fun _ _ _ h => h) (Or.inl ⟨by rfl, ?_⟩) ?_ ?_
                            rotate_left
                            · intro w'
                              go_simp
                              first | with_reducible rfl | (have hq_ := of_decide_eq_true c15b1; have hl_ := (Kd.R_reads' HO220.out).2.1; rw [if_pos (by omega)] <;> with_reducible rfl) | (have hq_ := of_decide_eq_true c15b1; have hl_ := (Kd.R_reads' HO227.out).2.1; rw [if_pos (by omega)] <;> with_reducible rfl) | (have hq_ := of_decide_eq_true c15b1; have hl_ := (Kd.R_reads' HO234.out).2.1; rw [if_pos (by omega)] <;> with_reducible rfl) | (have hq_ := of_decide_eq_true c15b1; have hl_ := (Kd.R_reads' HO238.out).2.1; rw [if_pos (by omega)] <;> with_reducible rfl) | (have hq_ := of_decide_eq_true c15b1; have hl_ := (Kd.R_reads' HO260.out).2.1; rw [if_pos (by omega)] <;> with_reducible rfl) | (have hq_ := of_decide_eq_true c25b1; have hl_ := (Kd.R_reads' HO220.out).2.1; rw [if_pos (by omega)] <;> with_reducible rfl) | (have hq_ := of_decide_eq_true c25b1; have hl_ := (Kd.R_reads' HO227.out).2.1; rw [if_pos (by omega)] <;> with_reducible rfl) | (have hq_ := of_decide_eq_true c25b1; have hl_ := (Kd.R_reads' HO234.out).2.1; rw [if_pos (by omega)] <;> with_reducible rfl) | (have hq_ := of_decide_eq_true c25b1; have hl_ := (Kd.R_reads' HO238.out).2.1; rw [if_pos (by omega)] <;> with_reducible rfl) | (have hq_ := of_decide_eq_true c25b1; have hl_ := (Kd.R_reads' HO260.out).2.1; rw [if_pos (by omega)] <;> with_reducible rfl)
                            rotate_left
                            · simp only [Act.put, List.setIfInBounds_toArray, List.set_cons_zero, List.set_cons_succ, i64_w, i32_w]
                              rfl
                            refine pure_ (i := 1) (N := some 13) (v := ?_) (a' := ?_) #[true, true, false, false, false, false, false, false, false, false, false, false, false, false] rfl rfl (any_of HT_.out (by kernel_rfl)) (fun _ _ _ h => h) (Or.inl ⟨by rfl, ?_⟩) ?_ ?_
                            rotate_left
                            · intro w'
                              go_simp
                              first | with_reducible rfl | (have hq_ := of_decide_eq_true c15b1; have hl_ := (Kd.R_reads' HO220.out).2.1; rw [if_pos (by omega)] <;> with_reducible rfl) | (have hq_ := of_decide_eq_true c15b1; have hl_ := (Kd.R_reads' HO227.out).2.1; rw [if_pos (by omega)] <;> with_reducible rfl) | (have hq_ := of_decide_eq_true c15b1; have hl_ := (Kd.R_reads' HO234.out).2.1; rw [if_pos (by omega)] <;> with_reducible rfl) | (have hq_ := of_decide_eq_true c15b1; have hl_ := (Kd.R_reads' HO238.out).2.1; rw [if_pos (by omega)] <;> with_reducible rfl) | (have hq_ := of_decide_eq_true c15b1; have hl_ := (Kd.R_reads' HO260.out).2.1; rw [if_pos (by omega)] <;> with_reducible rfl) | (have hq_ := of_decide_eq_true c25b1; have hl_ := (Kd.R_reads' HO220.out).2.1; rw [if_pos (by omega)] <;> with_reducible rfl) | (have hq_ := of_decide_eq_true c25b1; have hl_ := (Kd.R_reads' HO227.out).2.1; rw [if_pos (by omega)] <;> with_reducible rfl) | (have hq_ := of_decide_eq_true c25b1; have hl_ := (Kd.R_reads' HO234.out).2.1; rw [if_pos (by omega)] <;> with_reducible rfl) | (have hq_ := of_decide_eq_true c25b1; have hl_ := (Kd.R_reads' HO238.out).2.1; rw [if_pos (by omega)] <;> with_reducible rfl) | (have hq_ := of_decide_eq_true c25b1; have hl_ := (Kd.R_reads' HO260.out).2.1; rw [if_pos (by omega)] <;> with_reducible rfl)
                            rotate_left
                            · simp only [Act.put, List.setIfInBounds_toArray, List.set_cons_zero, List.set_cons_succ, i64_w, i32_w]
                              rfl
                            refine pure_ (i := 3) (N := some 15) (v := ?_) (a' := ?_) #[true, true, false, true, false, false, false, false, false, false, false, false, false, false] rfl rfl (any_of HT_.out (by kernel_rfl)) (fun _ _ _ h => h) (Or.inl ⟨by rfl, ?_⟩) ?_ ?_
                            rotate_left
                            · intro w'
                              go_simp
                              first | with_reducible rfl | (have hq_ := of_decide_eq_true c15b1; have hl_ := (Kd.R_reads' HO220.out).2.1; rw [if_pos (by omega)] <;> with_reducible rfl) | (have hq_ := of_decide_eq_true c15b1; have hl_ := (Kd.R_reads' HO227.out).2.1; rw [if_pos (by omega)] <;> with_reducible rfl) | (have hq_ := of_decide_eq_true c15b1; have hl_ := (Kd.R_reads' HO234.out).2.1; rw [if_pos (by omega)] <;> with_reducible rfl) | (have hq_ := of_decide_eq_true c15b1; have hl_ := (Kd.R_reads' HO238.out).2.1; rw [if_pos (by omega)] <;> with_reducible rfl) | (have hq_ := of_decide_eq_true c15b1; have hl_ := (Kd.R_reads' HO260.out).2.1; rw [if_pos (by omega)] <;> with_reducible rfl) | (have hq_ := of_decide_eq_true c25b1; have hl_ := (Kd.R_reads' HO220.out).2.1; rw [if_pos (by omega)] <;> with_reducible rfl) | (have hq_ := of_decide_eq_true c25b1; have hl_ := (Kd.R_reads' HO227.out).2.1; rw [if_pos (by omega)] <;> with_reducible rfl) | (have hq_ := of_decide_eq_true c25b1; have hl_ := (Kd.R_reads' HO234.out).2.1; rw [if_pos (by omega)] <;> with_reducible rfl) | (have hq_ := of_decide_eq_true c25b1; have hl_ := (Kd.R_reads' HO238.out).2.1; rw [if_pos (by omega)] <;> with_reducible rfl) | (have hq_ := of_decide_eq_true c25b1; have hl_ := (Kd.R_reads' HO260.out).2.1; rw [if_pos (by omega)] <;> with_reducible rfl)
                            rotate_left
                            · simp only [Act.put, List.setIfInBounds_toArray, List.set_cons_zero, List.set_cons_succ, i64_w, i32_w]
                              rfl
                            refine pure_ (i := 4) (N := some 16) (v := ?_) (a' := ?_) #[true, true, false, true, true, false, false, false, false, false, false, false, false, false] rfl rfl (any_of HT_.out (by kernel_rfl)) (fun _ _ _ h => h) (Or.inl ⟨by rfl, ?_⟩) ?_ ?_
                            rotate_left
                            · intro w'
                              go_simp
                              first | with_reducible rfl | (have hq_ := of_decide_eq_true c15b1; have hl_ := (Kd.R_reads' HO220.out).2.1; rw [if_pos (by omega)] <;> with_reducible rfl) | (have hq_ := of_decide_eq_true c15b1; have hl_ := (Kd.R_reads' HO227.out).2.1; rw [if_pos (by omega)] <;> with_reducible rfl) | (have hq_ := of_decide_eq_true c15b1; have hl_ := (Kd.R_reads' HO234.out).2.1; rw [if_pos (by omega)] <;> with_reducible rfl) | (have hq_ := of_decide_eq_true c15b1; have hl_ := (Kd.R_reads' HO238.out).2.1; rw [if_pos (by omega)] <;> with_reducible rfl) | (have hq_ := of_decide_eq_true c15b1; have hl_ := (Kd.R_reads' HO260.out).2.1; rw [if_pos (by omega)] <;> with_reducible rfl) | (have hq_ := of_decide_eq_true c25b1; have hl_ := (Kd.R_reads' HO220.out).2.1; rw [if_pos (by omega)] <;> with_reducible rfl) | (have hq_ := of_decide_eq_true c25b1; have hl_ := (Kd.R_reads' HO227.out).2.1; rw [if_pos (by omega)] <;> with_reducible rfl) | (have hq_ := of_decide_eq_true c25b1; have hl_ := (Kd.R_reads' HO234.out).2.1; rw [if_pos (by omega)] <;> with_reducible rfl) | (have hq_ := of_decide_eq_true c25b1; have hl_ := (Kd.R_reads' HO238.out).2.1; rw [if_pos (by omega)] <;> with_reducible rfl) | (have hq_ := of_decide_eq_true c25b1; have hl_ := (Kd.R_reads' HO260.out).2.1; rw [if_pos (by omega)] <;> with_reducible rfl)
                            rotate_left
                            · simp only [Act.put, List.setIfInBounds_toArray, List.set_cons_zero, List.set_cons_succ, i64_w, i32_w]
                              rfl
                            refine pure_ (i := 6) (N := some 18) (v := ?_) (a' := ?_) #[true, true, false, true, true, false, true, false, false, false, false, false, false, false] rfl rfl (any_of HT_.out (by kernel_rfl)) (fun _ _ _ h => h) (Or.inl ⟨by rfl, ?_⟩) ?_ ?_
                            rotate_left
                            · intro w'
                              go_simp
                              first | with_reducible rfl | (have hq_ := of_decide_eq_true c15b1; have hl_ := (Kd.R_reads' HO220.out).2.1; rw [if_pos (by omega)] <;> with_reducible rfl) | (have hq_ := of_decide_eq_true c15b1; have hl_ := (Kd.R_reads' HO227.out).2.1; rw [if_pos (by omega)] <;> with_reducible rfl) | (have hq_ := of_decide_eq_true c15b1; have hl_ := (Kd.R_reads' HO234.out).2.1; rw [if_pos (by omega)] <;> with_reducible rfl) | (have hq_ := of_decide_eq_true c15b1; have hl_ := (Kd.R_reads' HO238.out).2.1; rw [if_pos (by omega)] <;> with_reducible rfl) | (have hq_ := of_decide_eq_true c15b1; have hl_ := (Kd.R_reads' HO260.out).2.1; rw [if_pos (by omega)] <;> with_reducible rfl) | (have hq_ := of_decide_eq_true c25b1; have hl_ := (Kd.R_reads' HO220.out).2.1; rw [if_pos (by omega)] <;> with_reducible rfl) | (have hq_ := of_decide_eq_true c25b1; have hl_ := (Kd.R_reads' HO227.out).2.1; rw [if_pos (by omega)] <;> with_reducible rfl) | (have hq_ := of_decide_eq_true c25b1; have hl_ := (Kd.R_reads' HO234.out).2.1; rw [if_pos (by omega)] <;> with_reducible rfl) | (have hq_ := of_decide_eq_true c25b1; have hl_ := (Kd.R_reads' HO238.out).2.1; rw [if_pos (by omega)] <;> with_reducible rfl) | (have hq_ := of_decide_eq_true c25b1; have hl_ := (Kd.R_reads' HO260.out).2.1; rw [if_pos (by omega)] <;> with_reducible rfl)
                            rotate_left
                            · simp only [Act.put, List.setIfInBounds_toArray, List.set_cons_zero, List.set_cons_succ, i64_w, i32_w]
                              rfl
                            refine pure_ (i := 7) (N := some 19) (v := ?_) (a' := ?_) #[true, true, false, true, true, false, true, true, false, false, false, false, false, false] rfl rfl (any_of HT_.out (by kernel_rfl)) (fun _ _ _ h => h) (Or.inl ⟨by rfl, ?_⟩) ?_ ?_
                            rotate_left
                            · intro w'
                              go_simp
                              first | with_reducible rfl | (have hq_ := of_decide_eq_true c15b1; have hl_ := (Kd.R_reads' HO220.out).2.1; rw [if_pos (by omega)] <;> with_reducible rfl) | (have hq_ := of_decide_eq_true c15b1; have hl_ := (Kd.R_reads' HO227.out).2.1; rw [if_pos (by omega)] <;> with_reducible rfl) | (have hq_ := of_decide_eq_true c15b1; have hl_ := (Kd.R_reads' HO234.out).2.1; rw [if_pos (by omega)] <;> with_reducible rfl) | (have hq_ := of_decide_eq_true c15b1; have hl_ := (Kd.R_reads' HO238.out).2.1; rw [if_pos (by omega)] <;> with_reducible rfl) | (have hq_ := of_decide_eq_true c15b1; have hl_ := (Kd.R_reads' HO260.out).2.1; rw [if_pos (by omega)] <;> with_reducible rfl) | (have hq_ := of_decide_eq_true c25b1; have hl_ := (Kd.R_reads' HO220.out).2.1; rw [if_pos (by omega)] <;> with_reducible rfl) | (have hq_ := of_decide_eq_true c25b1; have hl_ := (Kd.R_reads' HO227.out).2.1; rw [if_pos (by omega)] <;> with_reducible rfl) | (have hq_ := of_decide_eq_true c25b1; have hl_ := (Kd.R_reads' HO234.out).2.1; rw [if_pos (by omega)] <;> with_reducible rfl) | (have hq_ := of_decide_eq_true c25b1; have hl_ := (Kd.R_reads' HO238.out).2.1; rw [if_pos (by omega)] <;> with_reducible rfl) | (have hq_ := of_decide_eq_true c25b1; have hl_ := (Kd.R_reads' HO260.out).2.1; rw [if_pos (by omega)] <;> with_reducible rfl)
                            rotate_left
                            · simp only [Act.put, List.setIfInBounds_toArray, List.set_cons_zero, List.set_cons_succ, i64_w, i32_w]
                              rfl
                            refine pure_ (i := 9) (N := some 21) (v := ?_) (a' := ?_) #[true, true, false, true, true, false, true, true, false, true, false, false, false, false] rfl rfl (any_of HT_.out (by kernel_rfl)) (fun _ _ _ h => h) (Or.inl ⟨by rfl, ?_⟩) ?_ ?_
                            rotate_left
                            · intro w'
                              go_simp
                              first | with_reducible rfl | (have hq_ := of_decide_eq_true c15b1; have hl_ := (Kd.R_reads' HO220.out).2.1; rw [if_pos (by omega)] <;> with_reducible rfl) | (have hq_ := of_decide_eq_true c15b1; have hl_ := (Kd.R_reads' HO227.out).2.1; rw [if_pos (by omega)] <;> with_reducible rfl) | (have hq_ := of_decide_eq_true c15b1; have hl_ := (Kd.R_reads' HO234.out).2.1; rw [if_pos (by omega)] <;> with_reducible rfl) | (have hq_ := of_decide_eq_true c15b1; have hl_ := (Kd.R_reads' HO238.out).2.1; rw [if_pos (by omega)] <;> with_reducible rfl) | (have hq_ := of_decide_eq_true c15b1; have hl_ := (Kd.R_reads' HO260.out).2.1; rw [if_pos (by omega)] <;> with_reducible rfl) | (have hq_ := of_decide_eq_true c25b1; have hl_ := (Kd.R_reads' HO220.out).2.1; rw [if_pos (by omega)] <;> with_reducible rfl) | (have hq_ := of_decide_eq_true c25b1; have hl_ := (Kd.R_reads' HO227.out).2.1; rw [if_pos (by omega)] <;> with_reducible rfl) | (have hq_ := of_decide_eq_true c25b1; have hl_ := (Kd.R_reads' HO234.out).2.1; rw [if_pos (by omega)] <;> with_reducible rfl) | (have hq_ := of_decide_eq_true c25b1; have hl_ := (Kd.R_reads' HO238.out).2.1; rw [if_pos (by omega)] <;> with_reducible rfl) | (have hq_ := of_decide_eq_true c25b1; have hl_ := (Kd.R_reads' HO260.out).2.1; rw [if_pos (by omega)] <;> with_reducible rfl)
                            rotate_left
                            · simp only [Act.put, List.setIfInBounds_toArray, List.set_cons_zero, List.set_cons_succ, i64_w, i32_w]
                              rfl
                            refine pure_ (i := 10) (N := some 22) (v := ?_) (a' := ?_) #[true, true, false, true, true, false, true, true, false, true, true, false, false, false] rfl rfl (any_of HT_.out (by kernel_rfl)) (fun _ _ _ h => h) (Or.inl ⟨by rfl, ?_⟩) ?_ ?_
                            rotate_left
                            · intro w'
                              go_simp
                              first | with_reducible rfl | (have hq_ := of_decide_eq_true c15b1; have hl_ := (Kd.R_reads' HO220.out).2.1; rw [if_pos (by omega)] <;> with_reducible rfl) | (have hq_ := of_decide_eq_true c15b1; have hl_ := (Kd.R_reads' HO227.out).2.1; rw [if_pos (by omega)] <;> with_reducible rfl) | (have hq_ := of_decide_eq_true c15b1; have hl_ := (Kd.R_reads' HO234.out).2.1; rw [if_pos (by omega)] <;> with_reducible rfl) | (have hq_ := of_decide_eq_true c15b1; have hl_ := (Kd.R_reads' HO238.out).2.1; rw [if_pos (by omega)] <;> with_reducible rfl) | (have hq_ := of_decide_eq_true c15b1; have hl_ := (Kd.R_reads' HO260.out).2.1; rw [if_pos (by omega)] <;> with_reducible rfl) | (have hq_ := of_decide_eq_true c25b1; have hl_ := (Kd.R_reads' HO220.out).2.1; rw [if_pos (by omega)] <;> with_reducible rfl) | (have hq_ := of_decide_eq_true c25b1; have hl_ := (Kd.R_reads' HO227.out).2.1; rw [if_pos (by omega)] <;> with_reducible rfl) | (have hq_ := of_decide_eq_true c25b1; have hl_ := (Kd.R_reads' HO234.out).2.1; rw [if_pos (by omega)] <;> with_reducible rfl) | (have hq_ := of_decide_eq_true c25b1; have hl_ := (Kd.R_reads' HO238.out).2.1; rw [if_pos (by omega)] <;> with_reducible rfl) | (have hq_ := of_decide_eq_true c25b1; have hl_ := (Kd.R_reads' HO260.out).2.1; rw [if_pos (by omega)] <;> with_reducible rfl)
                            rotate_left
                            · simp only [Act.put, List.setIfInBounds_toArray, List.set_cons_zero, List.set_cons_succ, i64_w, i32_w]
                              rfl
                            refine take_ (i := 2) (N := some 14) (v := ?_) (a' := ?_) #[true, true, true, true, true, false, true, true, false, true, true, false, false, false] rfl rfl (take_ofW HT_.out HW_.out (by kernel_rfl)) (fun _ _ _ h => h) (Or.inl ⟨by rfl, ?_⟩) hHeld ?_ ?_
                            rotate_left
                            · rintro w' ⟨s0, s1, s2, s3, s4, s5, s6, s7, s8, s9, s10, s11, s12, s13, s14, s15, s16, s17, s18, s19, s20, s21, s22, s23⟩
                              go_simp
                              first | with_reducible rfl | (have hq_ := of_decide_eq_true c15b1; have hl_ := (Kd.R_reads' HO220.out).2.1; rw [if_pos (by omega)] <;> with_reducible rfl) | (have hq_ := of_decide_eq_true c15b1; have hl_ := (Kd.R_reads' HO227.out).2.1; rw [if_pos (by omega)] <;> with_reducible rfl) | (have hq_ := of_decide_eq_true c15b1; have hl_ := (Kd.R_reads' HO234.out).2.1; rw [if_pos (by omega)] <;> with_reducible rfl) | (have hq_ := of_decide_eq_true c15b1; have hl_ := (Kd.R_reads' HO238.out).2.1; rw [if_pos (by omega)] <;> with_reducible rfl) | (have hq_ := of_decide_eq_true c15b1; have hl_ := (Kd.R_reads' HO260.out).2.1; rw [if_pos (by omega)] <;> with_reducible rfl) | (have hq_ := of_decide_eq_true c25b1; have hl_ := (Kd.R_reads' HO220.out).2.1; rw [if_pos (by omega)] <;> with_reducible rfl) | (have hq_ := of_decide_eq_true c25b1; have hl_ := (Kd.R_reads' HO227.out).2.1; rw [if_pos (by omega)] <;> with_reducible rfl) | (have hq_ := of_decide_eq_true c25b1; have hl_ := (Kd.R_reads' HO234.out).2.1; rw [if_pos (by omega)] <;> with_reducible rfl) | (have hq_ := of_decide_eq_true c25b1; have hl_ := (Kd.R_reads' HO238.out).2.1; rw [if_pos (by omega)] <;> with_reducible rfl) | (have hq_ := of_decide_eq_true c25b1; have hl_ := (Kd.R_reads' HO260.out).2.1; rw [if_pos (by omega)] <;> with_reducible rfl)
                            rotate_left
                            · simp only [Act.put, List.setIfInBounds_toArray, List.set_cons_zero, List.set_cons_succ, i64_w, i32_w]
                              rfl
                            refine take_ (i := 5) (N := some 17) (v := ?_) (a' := ?_) #[true, true, true, true, true, true, true, true, false, true, true, false, false, false] rfl rfl (take_ofW HT_.out HW_.out (by kernel_rfl)) (fun _ _ _ h => h) (Or.inl ⟨by rfl, ?_⟩) hHeld ?_ ?_
                            rotate_left
                            · rintro w' ⟨s0, s1, s2, s3, s4, s5, s6, s7, s8, s9, s10, s11, s12, s13, s14, s15, s16, s17, s18, s19, s20, s21, s22, s23⟩
                              go_simp
                              first | with_reducible rfl | (have hq_ := of_decide_eq_true c15b1; have hl_ := (Kd.R_reads' HO220.out).2.1; rw [if_pos (by omega)] <;> with_reducible rfl) | (have hq_ := of_decide_eq_true c15b1; have hl_ := (Kd.R_reads' HO227.out).2.1; rw [if_pos (by omega)] <;> with_reducible rfl) | (have hq_ := of_decide_eq_true c15b1; have hl_ := (Kd.R_reads' HO234.out).2.1; rw [if_pos (by omega)] <;> with_reducible rfl) | (have hq_ := of_decide_eq_true c15b1; have hl_ := (Kd.R_reads' HO238.out).2.1; rw [if_pos (by omega)] <;> with_reducible rfl) | (have hq_ := of_decide_eq_true c15b1; have hl_ := (Kd.R_reads' HO260.out).2.1; rw [if_pos (by omega)] <;> with_reducible rfl) | (have hq_ := of_decide_eq_true c25b1; have hl_ := (Kd.R_reads' HO220.out).2.1; rw [if_pos (by omega)] <;> with_reducible rfl) | (have hq_ := of_decide_eq_true c25b1; have hl_ := (Kd.R_reads' HO227.out).2.1; rw [if_pos (by omega)] <;> with_reducible rfl) | (have hq_ := of_decide_eq_true c25b1; have hl_ := (Kd.R_reads' HO234.out).2.1; rw [if_pos (by omega)] <;> with_reducible rfl) | (have hq_ := of_decide_eq_true c25b1; have hl_ := (Kd.R_reads' HO238.out).2.1; rw [if_pos (by omega)] <;> with_reducible rfl) | (have hq_ := of_decide_eq_true c25b1; have hl_ := (Kd.R_reads' HO260.out).2.1; rw [if_pos (by omega)] <;> with_reducible rfl)
                            rotate_left
                            · simp only [Act.put, List.setIfInBounds_toArray, List.set_cons_zero, List.set_cons_succ, i64_w, i32_w]
                              rfl
                            refine take_ (i := 8) (N := some 20) (v := ?_) (a' := ?_) #[true, true, true, true, true, true, true, true, true, true, true, false, false, false] rfl rfl (take_ofW HT_.out HW_.out (by kernel_rfl)) (fun _ _ _ h => h) (Or.inl ⟨by rfl, ?_⟩) hHeld ?_ ?_
                            rotate_left
                            · rintro w' ⟨s0, s1, s2, s3, s4, s5, s6, s7, s8, s9, s10, s11, s12, s13, s14, s15, s16, s17, s18, s19, s20, s21, s22, s23⟩
                              go_simp
                              first | with_reducible rfl | (have hq_ := of_decide_eq_true c15b1; have hl_ := (Kd.R_reads' HO220.out).2.1; rw [if_pos (by omega)] <;> with_reducible rfl) | (have hq_ := of_decide_eq_true c15b1; have hl_ := (Kd.R_reads' HO227.out).2.1; rw [if_pos (by omega)] <;> with_reducible rfl) | (have hq_ := of_decide_eq_true c15b1; have hl_ := (Kd.R_reads' HO234.out).2.1; rw [if_pos (by omega)] <;> with_reducible rfl) | (have hq_ := of_decide_eq_true c15b1; have hl_ := (Kd.R_reads' HO238.out).2.1; rw [if_pos (by omega)] <;> with_reducible rfl) | (have hq_ := of_decide_eq_true c15b1; have hl_ := (Kd.R_reads' HO260.out).2.1; rw [if_pos (by omega)] <;> with_reducible rfl) | (have hq_ := of_decide_eq_true c25b1; have hl_ := (Kd.R_reads' HO220.out).2.1; rw [if_pos (by omega)] <;> with_reducible rfl) | (have hq_ := of_decide_eq_true c25b1; have hl_ := (Kd.R_reads' HO227.out).2.1; rw [if_pos (by omega)] <;> with_reducible rfl) | (have hq_ := of_decide_eq_true c25b1; have hl_ := (Kd.R_reads' HO234.out).2.1; rw [if_pos (by omega)] <;> with_reducible rfl) | (have hq_ := of_decide_eq_true c25b1; have hl_ := (Kd.R_reads' HO238.out).2.1; rw [if_pos (by omega)] <;> with_reducible rfl) | (have hq_ := of_decide_eq_true c25b1; have hl_ := (Kd.R_reads' HO260.out).2.1; rw [if_pos (by omega)] <;> with_reducible rfl)
                            rotate_left
                            · simp only [Act.put, List.setIfInBounds_toArray, List.set_cons_zero, List.set_cons_succ, i64_w, i32_w]
                              rfl
                            refine take_ (i := 11) (N := some 23) (v := ?_) (a' := ?_) #[true, true, true, true, true, true, true, true, true, true, true, true, false, false] rfl rfl (take_ofW HT_.out HW_.out (by kernel_rfl)) (fun _ _ _ h => h) (Or.inl ⟨by rfl, ?_⟩) hHeld ?_ ?_
                            rotate_left
                            · rintro w' ⟨s0, s1, s2, s3, s4, s5, s6, s7, s8, s9, s10, s11, s12, s13, s14, s15, s16, s17, s18, s19, s20, s21, s22, s23⟩
                              go_simp
                              first | with_reducible rfl | (have hq_ := of_decide_eq_true c15b1; have hl_ := (Kd.R_reads' HO220.out).2.1; rw [if_pos (by omega)] <;> with_reducible rfl) | (have hq_ := of_decide_eq_true c15b1; have hl_ := (Kd.R_reads' HO227.out).2.1; rw [if_pos (by omega)] <;> with_reducible rfl) | (have hq_ := of_decide_eq_true c15b1; have hl_ := (Kd.R_reads' HO234.out).2.1; rw [if_pos (by omega)] <;> with_reducible rfl) | (have hq_ := of_decide_eq_true c15b1; have hl_ := (Kd.R_reads' HO238.out).2.1; rw [if_pos (by omega)] <;> with_reducible rfl) | (have hq_ := of_decide_eq_true c15b1; have hl_ := (Kd.R_reads' HO260.out).2.1; rw [if_pos (by omega)] <;> with_reducible rfl) | (have hq_ := of_decide_eq_true c25b1; have hl_ := (Kd.R_reads' HO220.out).2.1; rw [if_pos (by omega)] <;> with_reducible rfl) | (have hq_ := of_decide_eq_true c25b1; have hl_ := (Kd.R_reads' HO227.out).2.1; rw [if_pos (by omega)] <;> with_reducible rfl) | (have hq_ := of_decide_eq_true c25b1; have hl_ := (Kd.R_reads' HO234.out).2.1; rw [if_pos (by omega)] <;> with_reducible rfl) | (have hq_ := of_decide_eq_true c25b1; have hl_ := (Kd.R_reads' HO238.out).2.1; rw [if_pos (by omega)] <;> with_reducible rfl) | (have hq_ := of_decide_eq_true c25b1; have hl_ := (Kd.R_reads' HO260.out).2.1; rw [if_pos (by omega)] <;> with_reducible rfl)
                            rotate_left
                            · simp only [Act.put, List.setIfInBounds_toArray, List.set_cons_zero, List.set_cons_succ, i64_w, i32_w]
                              rfl
                            refine one_ (i := 12) (N := some 24) #[true, true, true, true, true, true, true, true, true, true, true, true, true, false] rfl rfl (one_of HT_.out (by kernel_rfl)) (by decide) (fun K hK => ?_)
                            refine Kd.R_lit_step k34 _ 34 ?hg (N := 24) ?hd (xs := ([(⟨(⟨(rd_T34 y218 2).f0.f0, (rd_T34 y218 2).f0.f1⟩ : S24), (rd_T34 y218 2).f1, (rd_T34 y218 2).f2, (rd_T34 y218 2).f3, (rd_T34 y218 2).f4⟩ : S34), (⟨(⟨(rd_T34 y218 0).f0.f0, (rd_T34 y218 0).f0.f1⟩ : S24), (rd_T34 y218 0).f1, (rd_T34 y218 0).f2, (rd_T34 y218 0).f3, (rd_T34 y218 0).f4⟩ : S34), (⟨(⟨(rd_T34 y218 3).f0.f0, (rd_T34 y218 3).f0.f1⟩ : S24), (rd_T34 y218 3).f1, (rd_T34 y218 3).f2, (rd_T34 y218 3).f3, (rd_T34 y218 3).f4⟩ : S34), (⟨(⟨(rd_T34 y218 1).f0.f0, (rd_T34 y218 1).f0.f1⟩ : S24), (rd_T34 y218 1).f1, (rd_T34 y218 1).f2, (rd_T34 y218 1).f3, (rd_T34 y218 1).f4⟩ : S34)] : List (S34))) (inner := [.int .i64 ((rd_T34 y218 2).f0.f0), .int .i64 ((rd_T34 y218 2).f0.f1), .int .i64 ((rd_T34 y218 2).f1), .int .i64 ((rd_T34 y218 2).f2), .int .i64 ((rd_T34 y218 2).f3), .int .i64 ((rd_T34 y218 2).f4), .int .i64 ((rd_T34 y218 0).f0.f0), .int .i64 ((rd_T34 y218 0).f0.f1), .int .i64 ((rd_T34 y218 0).f1), .int .i64 ((rd_T34 y218 0).f2), .int .i64 ((rd_T34 y218 0).f3), .int .i64 ((rd_T34 y218 0).f4), .int .i64 ((rd_T34 y218 3).f0.f0), .int .i64 ((rd_T34 y218 3).f0.f1), .int .i64 ((rd_T34 y218 3).f1), .int .i64 ((rd_T34 y218 3).f2), .int .i64 ((rd_T34 y218 3).f3), .int .i64 ((rd_T34 y218 3).f4), .int .i64 ((rd_T34 y218 1).f0.f0), .int .i64 ((rd_T34 y218 1).f0.f1), .int .i64 ((rd_T34 y218 1).f1), .int .i64 ((rd_T34 y218 1).f2), .int .i64 ((rd_T34 y218 1).f3), .int .i64 ((rd_T34 y218 1).f4)]) (ok := fun _ => True) (okp := fun _ => True) ?hr ?hp (fun _ hk => hk) trivial (Below.refl _ _) (Nat.le_refl _) (by simp) ?_; (case hd => rfl); (case hg => rfl); (case hr => first | (go_simp; done) | (go_simp; rfl)); (case hp => exact (Reps.c6 (show Kd.M k34 _ _ _ (⟨(⟨(rd_T34 y218 2).f0.f0, (rd_T34 y218 2).f0.f1⟩ : S24), (rd_T34 y218 2).f1, (rd_T34 y218 2).f2, (rd_T34 y218 2).f3, (rd_T34 y218 2).f4⟩ : S34) [.int .i64 ((rd_T34 y218 2).f0.f0), .int .i64 ((rd_T34 y218 2).f0.f1), .int .i64 ((rd_T34 y218 2).f1), .int .i64 ((rd_T34 y218 2).f2), .int .i64 ((rd_T34 y218 2).f3), .int .i64 ((rd_T34 y218 2).f4)] from (k34_mkM _ _ _ (⟨(⟨(rd_T34 y218 2).f0.f0, (rd_T34 y218 2).f0.f1⟩ : S24), (rd_T34 y218 2).f1, (rd_T34 y218 2).f2, (rd_T34 y218 2).f3, (rd_T34 y218 2).f4⟩ : S34) )) (Reps.c6 (show Kd.M k34 _ _ _ (⟨(⟨(rd_T34 y218 0).f0.f0, (rd_T34 y218 0).f0.f1⟩ : S24), (rd_T34 y218 0).f1, (rd_T34 y218 0).f2, (rd_T34 y218 0).f3, (rd_T34 y218 0).f4⟩ : S34) [.int .i64 ((rd_T34 y218 0).f0.f0), .int .i64 ((rd_T34 y218 0).f0.f1), .int .i64 ((rd_T34 y218 0).f1), .int .i64 ((rd_T34 y218 0).f2), .int .i64 ((rd_T34 y218 0).f3), .int .i64 ((rd_T34 y218 0).f4)] from (k34_mkM _ _ _ (⟨(⟨(rd_T34 y218 0).f0.f0, (rd_T34 y218 0).f0.f1⟩ : S24), (rd_T34 y218 0).f1, (rd_T34 y218 0).f2, (rd_T34 y218 0).f3, (rd_T34 y218 0).f4⟩ : S34) )) (Reps.c6 (show Kd.M k34 _ _ _ (⟨(⟨(rd_T34 y218 3).f0.f0, (rd_T34 y218 3).f0.f1⟩ : S24), (rd_T34 y218 3).f1, (rd_T34 y218 3).f2, (rd_T34 y218 3).f3, (rd_T34 y218 3).f4⟩ : S34) [.int .i64 ((rd_T34 y218 3).f0.f0), .int .i64 ((rd_T34 y218 3).f0.f1), .int .i64 ((rd_T34 y218 3).f1), .int .i64 ((rd_T34 y218 3).f2), .int .i64 ((rd_T34 y218 3).f3), .int .i64 ((rd_T34 y218 3).f4)] from (k34_mkM _ _ _ (⟨(⟨(rd_T34 y218 3).f0.f0, (rd_T34 y218 3).f0.f1⟩ : S24), (rd_T34 y218 3).f1, (rd_T34 y218 3).f2, (rd_T34 y218 3).f3, (rd_T34 y218 3).f4⟩ : S34) )) (Reps.c6 (show Kd.M k34 _ _ _ (⟨(⟨(rd_T34 y218 1).f0.f0, (rd_T34 y218 1).f0.f1⟩ : S24), (rd_T34 y218 1).f1, (rd_T34 y218 1).f2, (rd_T34 y218 1).f3, (rd_T34 y218 1).f4⟩ : S34) [.int .i64 ((rd_T34 y218 1).f0.f0), .int .i64 ((rd_T34 y218 1).f0.f1), .int .i64 ((rd_T34 y218 1).f1), .int .i64 ((rd_T34 y218 1).f2), .int .i64 ((rd_T34 y218 1).f3), .int .i64 ((rd_T34 y218 1).f4)] from (k34_mkM _ _ _ (⟨(⟨(rd_T34 y218 1).f0.f0, (rd_T34 y218 1).f0.f1⟩ : S24), (rd_T34 y218 1).f1, (rd_T34 y218 1).f2, (rd_T34 y218 1).f3, (rd_T34 y218 1).f4⟩ : S34) )) (Reps.none _ _))))))
                            intro v226 w37 ho38 hb hg_ hnew_
                            have HS0_ := (hb.cell (World.block_lt_of_cell? _ _ (hHeld.1))).trans (hHeld.1)
                            have HS1_ := (hb.cell (World.block_lt_of_cell? _ _ (hHeld.2.1))).trans (hHeld.2.1)
                            have HS2_ := (hb.cell (World.block_lt_of_cell? _ _ (hHeld.2.2.1))).trans (hHeld.2.2.1)
                            have HS3_ := (hb.cell (World.block_lt_of_cell? _ _ (hHeld.2.2.2.1))).trans (hHeld.2.2.2.1)
                            have HS4_ := (hb.cell (World.block_lt_of_cell? _ _ (hHeld.2.2.2.2.1))).trans (hHeld.2.2.2.2.1)
                            have HS5_ := (hb.cell (World.block_lt_of_cell? _ _ (hHeld.2.2.2.2.2.1))).trans (hHeld.2.2.2.2.2.1)
                            have HS6_ := (hb.cell (World.block_lt_of_cell? _ _ (hHeld.2.2.2.2.2.2.1))).trans (hHeld.2.2.2.2.2.2.1)
                            have HS7_ := (hb.cell (World.block_lt_of_cell? _ _ (hHeld.2.2.2.2.2.2.2.1))).trans (hHeld.2.2.2.2.2.2.2.1)
                            have HS8_ := (hb.cell (World.block_lt_of_cell? _ _ (hHeld.2.2.2.2.2.2.2.2.1))).trans (hHeld.2.2.2.2.2.2.2.2.1)
                            have HS9_ := (hb.cell (World.block_lt_of_cell? _ _ (hHeld.2.2.2.2.2.2.2.2.2.1))).trans (hHeld.2.2.2.2.2.2.2.2.2.1)
                            have HS10_ := (hb.cell (World.block_lt_of_cell? _ _ (hHeld.2.2.2.2.2.2.2.2.2.2.1))).trans (hHeld.2.2.2.2.2.2.2.2.2.2.1)
                            have HS11_ := (hb.cell (World.block_lt_of_cell? _ _ (hHeld.2.2.2.2.2.2.2.2.2.2.2.1))).trans (hHeld.2.2.2.2.2.2.2.2.2.2.2.1)
                            have HS12_ := (hb.cell (World.block_lt_of_cell? _ _ (hHeld.2.2.2.2.2.2.2.2.2.2.2.2.1))).trans (hHeld.2.2.2.2.2.2.2.2.2.2.2.2.1)
                            have HS13_ := (hb.cell (World.block_lt_of_cell? _ _ (hHeld.2.2.2.2.2.2.2.2.2.2.2.2.2.1))).trans (hHeld.2.2.2.2.2.2.2.2.2.2.2.2.2.1)
                            have HS14_ := (hb.cell (World.block_lt_of_cell? _ _ (hHeld.2.2.2.2.2.2.2.2.2.2.2.2.2.2.1))).trans (hHeld.2.2.2.2.2.2.2.2.2.2.2.2.2.2.1)
                            have HS15_ := (hb.cell (World.block_lt_of_cell? _ _ (hHeld.2.2.2.2.2.2.2.2.2.2.2.2.2.2.2.1))).trans (hHeld.2.2.2.2.2.2.2.2.2.2.2.2.2.2.2.1)
                            have HS16_ := (hb.cell (World.block_lt_of_cell? _ _ (hHeld.2.2.2.2.2.2.2.2.2.2.2.2.2.2.2.2.1))).trans (hHeld.2.2.2.2.2.2.2.2.2.2.2.2.2.2.2.2.1)
                            have HS17_ := (hb.cell (World.block_lt_of_cell? _ _ (hHeld.2.2.2.2.2.2.2.2.2.2.2.2.2.2.2.2.2.1))).trans (hHeld.2.2.2.2.2.2.2.2.2.2.2.2.2.2.2.2.2.1)
                            have HS18_ := (hb.cell (World.block_lt_of_cell? _ _ (hHeld.2.2.2.2.2.2.2.2.2.2.2.2.2.2.2.2.2.2.1))).trans (hHeld.2.2.2.2.2.2.2.2.2.2.2.2.2.2.2.2.2.2.1)
                            have HS19_ := (hb.cell (World.block_lt_of_cell? _ _ (hHeld.2.2.2.2.2.2.2.2.2.2.2.2.2.2.2.2.2.2.2.1))).trans (hHeld.2.2.2.2.2.2.2.2.2.2.2.2.2.2.2.2.2.2.2.1)
                            have HS20_ := (hb.cell (World.block_lt_of_cell? _ _ (hHeld.2.2.2.2.2.2.2.2.2.2.2.2.2.2.2.2.2.2.2.2.1))).trans (hHeld.2.2.2.2.2.2.2.2.2.2.2.2.2.2.2.2.2.2.2.2.1)
                            have HS21_ := (hb.cell (World.block_lt_of_cell? _ _ (hHeld.2.2.2.2.2.2.2.2.2.2.2.2.2.2.2.2.2.2.2.2.2.1))).trans (hHeld.2.2.2.2.2.2.2.2.2.2.2.2.2.2.2.2.2.2.2.2.2.1)
                            have HS22_ := (hb.cell (World.block_lt_of_cell? _ _ (hHeld.2.2.2.2.2.2.2.2.2.2.2.2.2.2.2.2.2.2.2.2.2.2.1))).trans (hHeld.2.2.2.2.2.2.2.2.2.2.2.2.2.2.2.2.2.2.2.2.2.2.1)
                            have HS23_ := (hb.cell (World.block_lt_of_cell? _ _ (hHeld.2.2.2.2.2.2.2.2.2.2.2.2.2.2.2.2.2.2.2.2.2.2.2))).trans (hHeld.2.2.2.2.2.2.2.2.2.2.2.2.2.2.2.2.2.2.2.2.2.2.2)
                            clear hg_ hnew_
                            (first | rw [← Ny225.out] at ho38 | (simp only [Int.reduceToNat] at ho38; rw [← Ny225.out] at ho38))
                            have n0_ := Aside0.mk (Kd.R_elder' (by (with_reducible repeat (first | apply Kd.R_alloc | apply Kd.R_drewN | apply Kd.R_drew)); exact HO220.out) (Kd.R_base ho38) hb)
                            have n1_ := Aside0.mk (Kd.R_lower (Kd.R_new' ho38 (Kd.R_lt (by (with_reducible repeat (first | apply Kd.R_alloc | apply Kd.R_drewN | apply Kd.R_drew)); exact HO220.out))) (below_size (by repeat (first | (with_reducible first | exact HB.out | apply below_alloc | apply pw_below_drewN | apply below_drew1) | exact HB.out))))
                            have n2_ := Aside0.mk (below_step (by repeat (first | (with_reducible first | exact HB.out | apply below_alloc | apply pw_below_drewN | apply below_drew1) | exact HB.out)) hb)
                            clear HO220
                            clear HB
                            have HO220 := n0_
                            have HO227 := n1_
                            have HB := n2_
                            clear n0_ n1_ n2_
                            clear hb ho38
                            refine hK.out _ _ ⟨HS0_, HS1_, HS2_, HS3_, HS4_, HS5_, HS6_, HS7_, HS8_, HS9_, HS10_, HS11_, HS12_, HS13_, HS14_, HS15_, HS16_, HS17_, HS18_, HS19_, HS20_, HS21_, HS22_, HS23_⟩ (fun hHeld => ?_)
                            clear hK K
                            refine norm_ (a' := ?_) ?_ ?_
                            rotate_left
                            · show Act.put _ (some 24) _ = _
                              simp only [Act.put, List.setIfInBounds_toArray, List.set_cons_zero, List.set_cons_succ, i64_w, i32_w]
                              rfl
                            refine pure_ (i := 13) (N := some 2) (v := ?_) (a' := ?_) #[true, true, true, true, true, true, true, true, true, true, true, true, true, true] rfl rfl (any_of HT_.out (by kernel_rfl)) (fun _ _ _ h => h) (Or.inl ⟨by rfl, ?_⟩) ?_ ?_
                            rotate_left
                            · intro w'
                              go_simp
                              first | with_reducible rfl | (have hq_ := of_decide_eq_true c15b1; have hl_ := (Kd.R_reads' HO220.out).2.1; rw [if_pos (by omega)] <;> with_reducible rfl) | (have hq_ := of_decide_eq_true c15b1; have hl_ := (Kd.R_reads' HO227.out).2.1; rw [if_pos (by omega)] <;> with_reducible rfl) | (have hq_ := of_decide_eq_true c15b1; have hl_ := (Kd.R_reads' HO234.out).2.1; rw [if_pos (by omega)] <;> with_reducible rfl) | (have hq_ := of_decide_eq_true c15b1; have hl_ := (Kd.R_reads' HO238.out).2.1; rw [if_pos (by omega)] <;> with_reducible rfl) | (have hq_ := of_decide_eq_true c15b1; have hl_ := (Kd.R_reads' HO260.out).2.1; rw [if_pos (by omega)] <;> with_reducible rfl) | (have hq_ := of_decide_eq_true c25b1; have hl_ := (Kd.R_reads' HO220.out).2.1; rw [if_pos (by omega)] <;> with_reducible rfl) | (have hq_ := of_decide_eq_true c25b1; have hl_ := (Kd.R_reads' HO227.out).2.1; rw [if_pos (by omega)] <;> with_reducible rfl) | (have hq_ := of_decide_eq_true c25b1; have hl_ := (Kd.R_reads' HO234.out).2.1; rw [if_pos (by omega)] <;> with_reducible rfl) | (have hq_ := of_decide_eq_true c25b1; have hl_ := (Kd.R_reads' HO238.out).2.1; rw [if_pos (by omega)] <;> with_reducible rfl) | (have hq_ := of_decide_eq_true c25b1; have hl_ := (Kd.R_reads' HO260.out).2.1; rw [if_pos (by omega)] <;> with_reducible rfl)
                            rotate_left
                            · simp only [Act.put, List.setIfInBounds_toArray, List.set_cons_zero, List.set_cons_succ, i64_w, i32_w]
                              rfl
                            refine done_ (done_of HT_.out (by kernel_rfl)) ?_
                            try go_wp2_with (first | ((with_reducible refine gate_callee (f := 11) rfl ?_); refine goesL_ (some 28) rfl rfl Try.func11 (by kernel_rfl) rfl #[.slice (some ad221) y218.length co36, .agg #[.int .i64 0, .int .i64 0]] rfl (by (try simp only [List.map_toArray, List.map_cons, List.map_nil]); first | done | rfl | (simp only [List.length_drop, List.length_take]; rfl) | (have qy239 : y239.length = 2 := (by (rw [Ny239.out, List.length_take]; have := of_decide_eq_true c15b1; omega));  simp only [qy239] <;> rfl)) ?_; (with_reducible refine (rank_Place.calls _ _ y218 0 0 t228 true _ ?side1 ?side2 A9.out).mono ?_); (case side1 => repeat (first | exact (Kd.R_reads' HO220.out).2.2 | (with_reducible refine Kd.C_alloc ?_ _) | (with_reducible refine Kd.C_drewN ?_ _) | (with_reducible refine Kd.C_drew ?_))); (case side2 => exact (Kd.R_reads' HO220.out).2.1); rintro e w39 ⟨rfl, hb⟩; refine ⟨_, rfl, ?_⟩; have n0_ := Aside0.mk (Kd.R_below (by (with_reducible repeat (first | apply Kd.R_alloc | apply Kd.R_drewN | apply Kd.R_drew)); exact HO220.out) hb); have n1_ := Aside0.mk (Kd.R_below (by (with_reducible repeat (first | apply Kd.R_alloc | apply Kd.R_drewN | apply Kd.R_drew)); exact HO227.out) hb); have n2_ := Aside0.mk (below_step (by repeat (first | (with_reducible first | exact HB.out | apply below_alloc | apply pw_below_drewN | apply below_drew1) | exact HB.out)) hb); clear HO220; clear HO227; clear HB; have HO220 := n0_; have HO227 := n1_; have HB := n2_; clear n0_ n1_ n2_; (try clear hb); (try clear hb2); (try clear hk); (try clear hi)) | ((with_reducible refine gate_callee (f := 11) rfl ?_); refine goesL_ (some 34) rfl rfl Try.func11 (by kernel_rfl) rfl #[.slice (some ad221) y218.length co36, .agg #[.int .i64 1, .int .i64 0]] rfl (by (try simp only [List.map_toArray, List.map_cons, List.map_nil]); first | done | rfl | (simp only [List.length_drop, List.length_take]; rfl) | (have qy239 : y239.length = 2 := (by (rw [Ny239.out, List.length_take]; have := of_decide_eq_true c15b1; omega));  simp only [qy239] <;> rfl)) ?_; (with_reducible refine (rank_Place.calls _ _ y218 1 0 t230 false _ ?side1 ?side2 A10.out).mono ?_); (case side1 => repeat (first | exact (Kd.R_reads' HO220.out).2.2 | (with_reducible refine Kd.C_alloc ?_ _) | (with_reducible refine Kd.C_drewN ?_ _) | (with_reducible refine Kd.C_drew ?_))); (case side2 => exact (Kd.R_reads' HO220.out).2.1); rintro e w40 ⟨rfl, hb⟩; refine ⟨_, rfl, ?_⟩; have n0_ := Aside0.mk (Kd.R_below (by (with_reducible repeat (first | apply Kd.R_alloc | apply Kd.R_drewN | apply Kd.R_drew)); exact HO220.out) hb); have n1_ := Aside0.mk (Kd.R_below (by (with_reducible repeat (first | apply Kd.R_alloc | apply Kd.R_drewN | apply Kd.R_drew)); exact HO227.out) hb); have n2_ := Aside0.mk (below_step (by repeat (first | (with_reducible first | exact HB.out | apply below_alloc | apply pw_below_drewN | apply below_drew1) | exact HB.out)) hb); clear HO220; clear HO227; clear HB; have HO220 := n0_; have HO227 := n1_; have HB := n2_; clear n0_ n1_ n2_; (try clear hb); (try clear hb2); (try clear hk); (try clear hi)))
                            have n0_ := Aside0.mk (Kd.R_drew HO220.out)
                            have n1_ := Aside0.mk (Kd.R_drew HO227.out)
                            have n2_ := Aside0.mk (below_drew1 HB.out)
                            clear HO220
                            clear HO227
                            clear HB
                            have HO220 := n0_
                            have HO227 := n1_
                            have HB := n2_
                            clear n0_ n1_ n2_
                            have p247 : 0 ≤ (0 : Int) := (by omega)
                            have q247 : 0 < (y218.length : Int) := of_decide_eq_true (by first | (with_reducible assumption) | assumption)
                            obtain ⟨ad247, e247, hx247_0, hx247_1, hx247_2, hx247_3, hx247_4, hx247_5⟩ := at_T34 (Kd.R_reads' HO220.out).2.2 0 p247 q247
                            obtain rfl : ad221 = ad247 := (by injection e247)
                            have qi247 : (0 < y218.length) = True := eq_true (by omega)
                            (try rw [show ((0 : Int)).toNat = 0 from rfl] at hx247_0)
                            (try rw [show 0 * 6 = 0 from rfl] at hx247_0)
                            (try rw [Addr.add_zero'] at hx247_0)
                            (try rw [show ((0 : Int)).toNat = 0 from rfl] at hx247_1)
                            (try rw [show 0 * 6 = 0 from rfl] at hx247_1)
                            (try rw [Addr.add_zero'] at hx247_1)
                            (try rw [show ((0 : Int)).toNat = 0 from rfl] at hx247_2)
                            (try rw [show 0 * 6 = 0 from rfl] at hx247_2)
                            (try rw [Addr.add_zero'] at hx247_2)
                            (try rw [show ((0 : Int)).toNat = 0 from rfl] at hx247_3)
                            (try rw [show 0 * 6 = 0 from rfl] at hx247_3)
                            (try rw [Addr.add_zero'] at hx247_3)
                            (try rw [show ((0 : Int)).toNat = 0 from rfl] at hx247_4)
                            (try rw [show 0 * 6 = 0 from rfl] at hx247_4)
                            (try rw [Addr.add_zero'] at hx247_4)
                            (try rw [show ((0 : Int)).toNat = 0 from rfl] at hx247_5)
                            (try rw [show 0 * 6 = 0 from rfl] at hx247_5)
                            (try rw [Addr.add_zero'] at hx247_5)
                            replace p247 := eq_true p247
                            replace q247 := eq_true q247
                            have p248 : 0 ≤ (1 : Int) := (by omega)
                            have q248 : 1 < (y218.length : Int) := of_decide_eq_true (by first | (with_reducible assumption) | assumption)
                            obtain ⟨ad248, e248, hx248_0, hx248_1, hx248_2, hx248_3, hx248_4, hx248_5⟩ := at_T34 (Kd.R_reads' HO220.out).2.2 1 p248 q248
                            obtain rfl : ad221 = ad248 := (by injection e248)
                            (try simp only [show (1 : Int).toNat = 1 from rfl, Nat.reduceMul, Nat.reduceEqDiff, Go.Addr.add, ↓reduceIte] at hx248_0)
                            (try simp only [show (1 : Int).toNat = 1 from rfl, Nat.reduceMul, Nat.reduceEqDiff, Go.Addr.add, ↓reduceIte] at hx248_1)
                            (try simp only [show (1 : Int).toNat = 1 from rfl, Nat.reduceMul, Nat.reduceEqDiff, Go.Addr.add, ↓reduceIte] at hx248_2)
                            (try simp only [show (1 : Int).toNat = 1 from rfl, Nat.reduceMul, Nat.reduceEqDiff, Go.Addr.add, ↓reduceIte] at hx248_3)
                            (try simp only [show (1 : Int).toNat = 1 from rfl, Nat.reduceMul, Nat.reduceEqDiff, Go.Addr.add, ↓reduceIte] at hx248_4)
                            (try simp only [show (1 : Int).toNat = 1 from rfl, Nat.reduceMul, Nat.reduceEqDiff, Go.Addr.add, ↓reduceIte] at hx248_5)
                            have qi248 : (1 < y218.length) = True := eq_true (by omega)
                            (try rw [show ((1 : Int)).toNat = 1 from rfl] at hx248_0)
                            (try rw [show 1 * 6 = 6 from rfl] at hx248_0)
                            (try rw [show ((1 : Int)).toNat = 1 from rfl] at hx248_1)
                            (try rw [show 1 * 6 = 6 from rfl] at hx248_1)
                            (try rw [show ((1 : Int)).toNat = 1 from rfl] at hx248_2)
                            (try rw [show 1 * 6 = 6 from rfl] at hx248_2)
                            (try rw [show ((1 : Int)).toNat = 1 from rfl] at hx248_3)
                            (try rw [show 1 * 6 = 6 from rfl] at hx248_3)
                            (try rw [show ((1 : Int)).toNat = 1 from rfl] at hx248_4)
                            (try rw [show 1 * 6 = 6 from rfl] at hx248_4)
                            (try rw [show ((1 : Int)).toNat = 1 from rfl] at hx248_5)
                            (try rw [show 1 * 6 = 6 from rfl] at hx248_5)
                            replace p248 := eq_true p248
                            replace q248 := eq_true q248
                            refine start_ (n := 48) (S := fun w' => w'.cell? ad221 = some (.int .i64 ((rd_T34 y218 0).f0.f0)) ∧ w'.cell? ⟨ad221.block, ad221.off + 1, none⟩ = some (.int .i64 ((rd_T34 y218 0).f0.f1)) ∧ w'.cell? ⟨ad221.block, ad221.off + 2, none⟩ = some (.int .i64 ((rd_T34 y218 0).f1)) ∧ w'.cell? ⟨ad221.block, ad221.off + 3, none⟩ = some (.int .i64 ((rd_T34 y218 0).f2)) ∧ w'.cell? ⟨ad221.block, ad221.off + 4, none⟩ = some (.int .i64 ((rd_T34 y218 0).f3)) ∧ w'.cell? ⟨ad221.block, ad221.off + 5, none⟩ = some (.int .i64 ((rd_T34 y218 0).f4)) ∧ w'.cell? ⟨ad221.block, ad221.off + 6, none⟩ = some (.int .i64 ((rd_T34 y218 1).f0.f0)) ∧ w'.cell? ⟨ad221.block, ad221.off + 6 + 1, none⟩ = some (.int .i64 ((rd_T34 y218 1).f0.f1)) ∧ w'.cell? ⟨ad221.block, ad221.off + 6 + 2, none⟩ = some (.int .i64 ((rd_T34 y218 1).f1)) ∧ w'.cell? ⟨ad221.block, ad221.off + 6 + 3, none⟩ = some (.int .i64 ((rd_T34 y218 1).f2)) ∧ w'.cell? ⟨ad221.block, ad221.off + 6 + 4, none⟩ = some (.int .i64 ((rd_T34 y218 1).f3)) ∧ w'.cell? ⟨ad221.block, ad221.off + 6 + 5, none⟩ = some (.int .i64 ((rd_T34 y218 1).f4))) (ds := []) #[false, false, false, false, false, false, false, false, false, false, false, false, false, false, false, false, false, false, false, false, false, false, false, false, false, false, false, false, false, false, false, false, false, false, false, false, false, false, false, false, false, false, false, false, false, false, false, false] (by kernel_rfl) rfl rfl ⟨hx247_0, hx247_1, hx247_2, hx247_3, hx247_4, hx247_5, hx248_0, hx248_1, hx248_2, hx248_3, hx248_4, hx248_5⟩ (fun hHeld => ?_); refine with_tabW watchmanlaw07_ranked.tab5 watchmanlaw07_ranked.bits5 (fun HT_ HW_ => ?_)
                            generalize w40.drew = w41 at HO220 HO227 HB hx247_0 hx247_1 hx247_2 hx247_3 hx247_4 hx247_5 hx248_0 hx248_1 hx248_2 hx248_3 hx248_4 hx248_5 hHeld ⊢
                            refine pure_ (i := 0) (N := some 37) (v := ?_) (a' := ?_) #[true, false, false, false, false, false, false, false, false, false, false, false, false, false, false, false, false, false, false, false, false, false, false, false, false, false, false, false, false, false, false, false, false, false, false, false, false, false, false, false, false, false, false, false, false, false, false, false] rfl rfl (any_of HT_.out (by kernel_rfl)) (fun _ _ _ h => h) (Or.inl ⟨by rfl, ?_⟩) ?_ ?_
                            rotate_left
                            · intro w'
                              go_simp
                              first | with_reducible rfl | (have hq_ := of_decide_eq_true c15b1; have hl_ := (Kd.R_reads' HO220.out).2.1; rw [if_pos (by omega)] <;> with_reducible rfl) | (have hq_ := of_decide_eq_true c15b1; have hl_ := (Kd.R_reads' HO227.out).2.1; rw [if_pos (by omega)] <;> with_reducible rfl) | (have hq_ := of_decide_eq_true c15b1; have hl_ := (Kd.R_reads' HO234.out).2.1; rw [if_pos (by omega)] <;> with_reducible rfl) | (have hq_ := of_decide_eq_true c15b1; have hl_ := (Kd.R_reads' HO238.out).2.1; rw [if_pos (by omega)] <;> with_reducible rfl) | (have hq_ := of_decide_eq_true c15b1; have hl_ := (Kd.R_reads' HO260.out).2.1; rw [if_pos (by omega)] <;> with_reducible rfl) | (have hq_ := of_decide_eq_true c25b1; have hl_ := (Kd.R_reads' HO220.out).2.1; rw [if_pos (by omega)] <;> with_reducible rfl) | (have hq_ := of_decide_eq_true c25b1; have hl_ := (Kd.R_reads' HO227.out).2.1; rw [if_pos (by omega)] <;> with_reducible rfl) | (have hq_ := of_decide_eq_true c25b1; have hl_ := (Kd.R_reads' HO234.out).2.1; rw [if_pos (by omega)] <;> with_reducible rfl) | (have hq_ := of_decide_eq_true c25b1; have hl_ := (Kd.R_reads' HO238.out).2.1; rw [if_pos (by omega)] <;> with_reducible rfl) | (have hq_ := of_decide_eq_true c25b1; have hl_ := (Kd.R_reads' HO260.out).2.1; rw [if_pos (by omega)] <;> with_reducible rfl)
                            rotate_left
                            · simp only [Act.put, List.setIfInBounds_toArray, List.set_cons_zero, List.set_cons_succ, i64_w, i32_w]
                              rfl
                            refine pure_ (i := 2) (N := some 39) (v := ?_) (a' := ?_) #[true, false, true, false, false, false, false, false, false, false, false, false, false, false, false, false, false, false, false, false, false, false, false, false, false, false, false, false, false, false, false, false, false, false, false, false, false, false, false, false, false, false, false, false, false, false, false, false] rfl rfl (any_of HT_.out (by kernel_rfl)) (fun _ _ _ h => h) (Or.inl ⟨by rfl, ?_⟩) ?_ ?_
                            rotate_left
                            · intro w'
                              go_simp
                              first | with_reducible rfl | (have hq_ := of_decide_eq_true c15b1; have hl_ := (Kd.R_reads' HO220.out).2.1; rw [if_pos (by omega)] <;> with_reducible rfl) | (have hq_ := of_decide_eq_true c15b1; have hl_ := (Kd.R_reads' HO227.out).2.1; rw [if_pos (by omega)] <;> with_reducible rfl) | (have hq_ := of_decide_eq_true c15b1; have hl_ := (Kd.R_reads' HO234.out).2.1; rw [if_pos (by omega)] <;> with_reducible rfl) | (have hq_ := of_decide_eq_true c15b1; have hl_ := (Kd.R_reads' HO238.out).2.1; rw [if_pos (by omega)] <;> with_reducible rfl) | (have hq_ := of_decide_eq_true c15b1; have hl_ := (Kd.R_reads' HO260.out).2.1; rw [if_pos (by omega)] <;> with_reducible rfl) | (have hq_ := of_decide_eq_true c25b1; have hl_ := (Kd.R_reads' HO220.out).2.1; rw [if_pos (by omega)] <;> with_reducible rfl) | (have hq_ := of_decide_eq_true c25b1; have hl_ := (Kd.R_reads' HO227.out).2.1; rw [if_pos (by omega)] <;> with_reducible rfl) | (have hq_ := of_decide_eq_true c25b1; have hl_ := (Kd.R_reads' HO234.out).2.1; rw [if_pos (by omega)] <;> with_reducible rfl) | (have hq_ := of_decide_eq_true c25b1; have hl_ := (Kd.R_reads' HO238.out).2.1; rw [if_pos (by omega)] <;> with_reducible rfl) | (have hq_ := of_decide_eq_true c25b1; have hl_ := (Kd.R_reads' HO260.out).2.1; rw [if_pos (by omega)] <;> with_reducible rfl)
                            rotate_left
                            · simp only [Act.put, List.setIfInBounds_toArray, List.set_cons_zero, List.set_cons_succ, i64_w, i32_w]
                              rfl
                            refine one_ (i := 1) (N := some 38) #[true, true, true, false, false, false, false, false, false, false, false, false, false, false, false, false, false, false, false, false, false, false, false, false, false, false, false, false, false, false, false, false, false, false, false, false, false, false, false, false, false, false, false, false, false, false, false, false] rfl rfl (one_of HT_.out (by kernel_rfl)) (by decide) (fun K hK => ?_)
                            refine goes_ Try.func9 (by kernel_rfl) rfl #[.slice (some ad221) y218.length co36] (by rfl) rfl rfl (by (try simp only [List.map_toArray, List.map_cons, List.map_nil]); first | done | rfl | (simp only [List.length_drop, List.length_take]; rfl) | (have qy239 : y239.length = 2 := (by (rw [Ny239.out, List.length_take]; have := of_decide_eq_true c15b1; omega));  simp only [qy239] <;> rfl)) ?_
                            with_reducible refine (rank_Sort.calls _ _ y218 t232 _ ?side1 ?side2 A11.out).mono ?_
                            (case side1 => repeat (first | exact (Kd.R_reads' HO220.out).2.2 | (with_reducible refine Kd.C_alloc ?_ _) | (with_reducible refine Kd.C_drewN ?_ _) | (with_reducible refine Kd.C_drew ?_)))
                            (case side2 => exact (Kd.R_reads' HO220.out).2.1)
                            rintro e w42 ⟨v233, rfl, ho0, hb⟩
                            have HS0_ := (hb.cell (World.block_lt_of_cell? _ _ (hHeld.1))).trans (hHeld.1)
                            have HS1_ := (hb.cell (World.block_lt_of_cell? _ _ (hHeld.2.1))).trans (hHeld.2.1)
                            have HS2_ := (hb.cell (World.block_lt_of_cell? _ _ (hHeld.2.2.1))).trans (hHeld.2.2.1)
                            have HS3_ := (hb.cell (World.block_lt_of_cell? _ _ (hHeld.2.2.2.1))).trans (hHeld.2.2.2.1)
                            have HS4_ := (hb.cell (World.block_lt_of_cell? _ _ (hHeld.2.2.2.2.1))).trans (hHeld.2.2.2.2.1)
                            have HS5_ := (hb.cell (World.block_lt_of_cell? _ _ (hHeld.2.2.2.2.2.1))).trans (hHeld.2.2.2.2.2.1)
                            have HS6_ := (hb.cell (World.block_lt_of_cell? _ _ (hHeld.2.2.2.2.2.2.1))).trans (hHeld.2.2.2.2.2.2.1)
                            have HS7_ := (hb.cell (World.block_lt_of_cell? _ _ (hHeld.2.2.2.2.2.2.2.1))).trans (hHeld.2.2.2.2.2.2.2.1)
                            have HS8_ := (hb.cell (World.block_lt_of_cell? _ _ (hHeld.2.2.2.2.2.2.2.2.1))).trans (hHeld.2.2.2.2.2.2.2.2.1)
                            have HS9_ := (hb.cell (World.block_lt_of_cell? _ _ (hHeld.2.2.2.2.2.2.2.2.2.1))).trans (hHeld.2.2.2.2.2.2.2.2.2.1)
                            have HS10_ := (hb.cell (World.block_lt_of_cell? _ _ (hHeld.2.2.2.2.2.2.2.2.2.2.1))).trans (hHeld.2.2.2.2.2.2.2.2.2.2.1)
                            have HS11_ := (hb.cell (World.block_lt_of_cell? _ _ (hHeld.2.2.2.2.2.2.2.2.2.2.2))).trans (hHeld.2.2.2.2.2.2.2.2.2.2.2)
                            refine ⟨_, rfl, ?_⟩
                            have n0_ := Aside0.mk (Kd.R_elder' (by (with_reducible repeat (first | apply Kd.R_alloc | apply Kd.R_drewN | apply Kd.R_drew)); exact HO220.out) (Kd.R_base ho0) hb)
                            have n1_ := Aside0.mk (Kd.R_elder' (by (with_reducible repeat (first | apply Kd.R_alloc | apply Kd.R_drewN | apply Kd.R_drew)); exact HO227.out) (Kd.R_base ho0) hb)
                            have n2_ := Aside0.mk (Kd.R_lower (Kd.R_new' (Kd.R_new' ho0 (Kd.R_lt (by (with_reducible repeat (first | apply Kd.R_alloc | apply Kd.R_drewN | apply Kd.R_drew)); exact HO220.out))) (Kd.R_lt (by (with_reducible repeat (first | apply Kd.R_alloc | apply Kd.R_drewN | apply Kd.R_drew)); exact HO227.out))) (below_size (by repeat (first | (with_reducible first | exact HB.out | apply below_alloc | apply pw_below_drewN | apply below_drew1) | exact HB.out))))
                            have n3_ := Aside0.mk (below_step (by repeat (first | (with_reducible first | exact HB.out | apply below_alloc | apply pw_below_drewN | apply below_drew1) | exact HB.out)) hb)
                            clear HO220
                            clear HO227
                            clear HB
                            have HO220 := n0_
                            have HO227 := n1_
                            have HO234 := n2_
                            have HB := n3_
                            clear n0_ n1_ n2_ n3_
                            (try clear hb)
                            (try clear hb2)
                            (try clear hk)
                            (try clear hi)
                            (try clear ho0)
                            obtain ⟨Ao43, co43, eo43⟩ := Kd.R_slice HO234.out
                            (first | subst eo43 | (injection eo43 with f1_ f2_ f3_; have f4_ := f1_.symm; have f5_ := f3_.symm; clear f1_ f2_ f3_; subst f4_; subst f5_))
                            obtain ⟨Ao44, co44, eo44⟩ := Kd.R_slice HO227.out
                            (first | subst eo44 | (injection eo44 with f1_ f2_ f3_; have f4_ := f1_.symm; have f5_ := f3_.symm; clear f1_ f2_ f3_; subst f4_; subst f5_))
                            refine hK.out _ _ ⟨HS0_, HS1_, HS2_, HS3_, HS4_, HS5_, HS6_, HS7_, HS8_, HS9_, HS10_, HS11_⟩ (fun hHeld => ?_)
                            clear hK K
                            refine norm_ (a' := ?_) ?_ ?_
                            rotate_left
                            · show Act.put _ (some 38) _ = _
                              simp only [Act.put, List.setIfInBounds_toArray, List.set_cons_zero, List.set_cons_succ, i64_w, i32_w]
                              rfl
                            refine one_ (i := 3) (N := some 40) #[true, true, true, true, false, false, false, false, false, false, false, false, false, false, false, false, false, false, false, false, false, false, false, false, false, false, false, false, false, false, false, false, false, false, false, false, false, false, false, false, false, false, false, false, false, false, false, false] rfl rfl (one_of HT_.out (by kernel_rfl)) (by decide) (fun K hK => ?_)
                            refine goes_ Try.func14 (by kernel_rfl) rfl #[.slice Ao43 t232.length co43, .slice Ao44 y225.length co44] (by rfl) rfl rfl (by (try simp only [List.map_toArray, List.map_cons, List.map_nil]); first | done | rfl | (simp only [List.length_drop, List.length_take]; rfl) | (have qy239 : y239.length = 2 := (by (rw [Ny239.out, List.length_take]; have := of_decide_eq_true c15b1; omega));  simp only [qy239] <;> rfl)) ?_
                            with_reducible refine (watchmanref07_Same.calls k _ _ t232 _ _ y225 true _ ?side1 ?side2 ?side3 ?side4 A12.out).mono ?_
                            (case side1 => repeat (first | exact (Kd.R_reads' HO234.out).2.2 | (with_reducible refine Kd.C_alloc ?_ _) | (with_reducible refine Kd.C_drewN ?_ _) | (with_reducible refine Kd.C_drew ?_)))
                            (case side2 => exact (Kd.R_reads' HO234.out).2.1)
                            (case side3 => repeat (first | exact (Kd.R_reads' HO227.out).2.2 | (with_reducible refine Kd.C_alloc ?_ _) | (with_reducible refine Kd.C_drewN ?_ _) | (with_reducible refine Kd.C_drew ?_)))
                            (case side4 => exact (Kd.R_reads' HO227.out).2.1)
                            rintro e w' ⟨rfl, ⟨nd, rfl⟩⟩
                            refine ⟨_, rfl, ?_⟩
                            refine hK.out _ _ ⟨hHeld.1, hHeld.2.1, hHeld.2.2.1, hHeld.2.2.2.1, hHeld.2.2.2.2.1, hHeld.2.2.2.2.2.1, hHeld.2.2.2.2.2.2.1, hHeld.2.2.2.2.2.2.2.1, hHeld.2.2.2.2.2.2.2.2.1, hHeld.2.2.2.2.2.2.2.2.2.1, hHeld.2.2.2.2.2.2.2.2.2.2.1, hHeld.2.2.2.2.2.2.2.2.2.2.2⟩ (fun hHeld => ?_)
                            clear hK K
                            refine norm_ (a' := ?_) ?_ ?_
                            rotate_left
                            · show Act.put _ (some 40) _ = _
                              simp only [Act.put, List.setIfInBounds_toArray, List.set_cons_zero, List.set_cons_succ, i64_w, i32_w]
                              rfl
                            refine pure_ (i := 4) (N := some 41) (v := ?_) (a' := ?_) #[true, true, true, true, true, false, false, false, false, false, false, false, false, false, false, false, false, false, false, false, false, false, false, false, false, false, false, false, false, false, false, false, false, false, false, false, false, false, false, false, false, false, false, false, false, false, false, false] rfl rfl (any_of HT_.out (by kernel_rfl)) (fun _ _ _ h => h) (Or.inl ⟨by rfl, ?_⟩) ?_ ?_
                            rotate_left
                            · intro w'
                              go_simp
                              first | with_reducible rfl | (have hq_ := of_decide_eq_true c15b1; have hl_ := (Kd.R_reads' HO220.out).2.1; rw [if_pos (by omega)] <;> with_reducible rfl) | (have hq_ := of_decide_eq_true c15b1; have hl_ := (Kd.R_reads' HO227.out).2.1; rw [if_pos (by omega)] <;> with_reducible rfl) | (have hq_ := of_decide_eq_true c15b1; have hl_ := (Kd.R_reads' HO234.out).2.1; rw [if_pos (by omega)] <;> with_reducible rfl) | (have hq_ := of_decide_eq_true c15b1; have hl_ := (Kd.R_reads' HO238.out).2.1; rw [if_pos (by omega)] <;> with_reducible rfl) | (have hq_ := of_decide_eq_true c15b1; have hl_ := (Kd.R_reads' HO260.out).2.1; rw [if_pos (by omega)] <;> with_reducible rfl) | (have hq_ := of_decide_eq_true c25b1; have hl_ := (Kd.R_reads' HO220.out).2.1; rw [if_pos (by omega)] <;> with_reducible rfl) | (have hq_ := of_decide_eq_true c25b1; have hl_ := (Kd.R_reads' HO227.out).2.1; rw [if_pos (by omega)] <;> with_reducible rfl) | (have hq_ := of_decide_eq_true c25b1; have hl_ := (Kd.R_reads' HO234.out).2.1; rw [if_pos (by omega)] <;> with_reducible rfl) | (have hq_ := of_decide_eq_true c25b1; have hl_ := (Kd.R_reads' HO238.out).2.1; rw [if_pos (by omega)] <;> with_reducible rfl) | (have hq_ := of_decide_eq_true c25b1; have hl_ := (Kd.R_reads' HO260.out).2.1; rw [if_pos (by omega)] <;> with_reducible rfl)
                            rotate_left
                            · simp only [Act.put, List.setIfInBounds_toArray, List.set_cons_zero, List.set_cons_succ, i64_w, i32_w]
                              rfl
                            refine pure_ (i := 5) (N := some 42) (v := ?_) (a' := ?_) #[true, true, true, true, true, true, false, false, false, false, false, false, false, false, false, false, false, false, false, false, false, false, false, false, false, false, false, false, false, false, false, false, false, false, false, false, false, false, false, false, false, false, false, false, false, false, false, false] rfl rfl (any_of HT_.out (by kernel_rfl)) (fun _ _ _ h => h) (Or.inl ⟨by rfl, ?_⟩) ?_ ?_
                            rotate_left
                            · intro w'
                              go_simp
                              first | with_reducible rfl | (have hq_ := of_decide_eq_true c15b1; have hl_ := (Kd.R_reads' HO220.out).2.1; rw [if_pos (by omega)] <;> with_reducible rfl) | (have hq_ := of_decide_eq_true c15b1; have hl_ := (Kd.R_reads' HO227.out).2.1; rw [if_pos (by omega)] <;> with_reducible rfl) | (have hq_ := of_decide_eq_true c15b1; have hl_ := (Kd.R_reads' HO234.out).2.1; rw [if_pos (by omega)] <;> with_reducible rfl) | (have hq_ := of_decide_eq_true c15b1; have hl_ := (Kd.R_reads' HO238.out).2.1; rw [if_pos (by omega)] <;> with_reducible rfl) | (have hq_ := of_decide_eq_true c15b1; have hl_ := (Kd.R_reads' HO260.out).2.1; rw [if_pos (by omega)] <;> with_reducible rfl) | (have hq_ := of_decide_eq_true c25b1; have hl_ := (Kd.R_reads' HO220.out).2.1; rw [if_pos (by omega)] <;> with_reducible rfl) | (have hq_ := of_decide_eq_true c25b1; have hl_ := (Kd.R_reads' HO227.out).2.1; rw [if_pos (by omega)] <;> with_reducible rfl) | (have hq_ := of_decide_eq_true c25b1; have hl_ := (Kd.R_reads' HO234.out).2.1; rw [if_pos (by omega)] <;> with_reducible rfl) | (have hq_ := of_decide_eq_true c25b1; have hl_ := (Kd.R_reads' HO238.out).2.1; rw [if_pos (by omega)] <;> with_reducible rfl) | (have hq_ := of_decide_eq_true c25b1; have hl_ := (Kd.R_reads' HO260.out).2.1; rw [if_pos (by omega)] <;> with_reducible rfl)
                            rotate_left
                            · simp only [Act.put, List.setIfInBounds_toArray, List.set_cons_zero, List.set_cons_succ, i64_w, i32_w]
                              rfl
                            refine pure_ (i := 7) (N := some 44) (v := ?_) (a' := ?_) #[true, true, true, true, true, true, false, true, false, false, false, false, false, false, false, false, false, false, false, false, false, false, false, false, false, false, false, false, false, false, false, false, false, false, false, false, false, false, false, false, false, false, false, false, false, false, false, false] rfl rfl (any_of HT_.out (by kernel_rfl)) (fun _ _ _ h => h) (Or.inl ⟨by rfl, ?_⟩) ?_ ?_
                            rotate_left
                            · intro w'
                              go_simp
                              first | with_reducible rfl | (have hq_ := of_decide_eq_true c15b1; have hl_ := (Kd.R_reads' HO220.out).2.1; rw [if_pos (by omega)] <;> with_reducible rfl) | (have hq_ := of_decide_eq_true c15b1; have hl_ := (Kd.R_reads' HO227.out).2.1; rw [if_pos (by omega)] <;> with_reducible rfl) | (have hq_ := of_decide_eq_true c15b1; have hl_ := (Kd.R_reads' HO234.out).2.1; rw [if_pos (by omega)] <;> with_reducible rfl) | (have hq_ := of_decide_eq_true c15b1; have hl_ := (Kd.R_reads' HO238.out).2.1; rw [if_pos (by omega)] <;> with_reducible rfl) | (have hq_ := of_decide_eq_true c15b1; have hl_ := (Kd.R_reads' HO260.out).2.1; rw [if_pos (by omega)] <;> with_reducible rfl) | (have hq_ := of_decide_eq_true c25b1; have hl_ := (Kd.R_reads' HO220.out).2.1; rw [if_pos (by omega)] <;> with_reducible rfl) | (have hq_ := of_decide_eq_true c25b1; have hl_ := (Kd.R_reads' HO227.out).2.1; rw [if_pos (by omega)] <;> with_reducible rfl) | (have hq_ := of_decide_eq_true c25b1; have hl_ := (Kd.R_reads' HO234.out).2.1; rw [if_pos (by omega)] <;> with_reducible rfl) | (have hq_ := of_decide_eq_true c25b1; have hl_ := (Kd.R_reads' HO238.out).2.1; rw [if_pos (by omega)] <;> with_reducible rfl) | (have hq_ := of_decide_eq_true c25b1; have hl_ := (Kd.R_reads' HO260.out).2.1; rw [if_pos (by omega)] <;> with_reducible rfl)
                            rotate_left
                            · simp only [Act.put, List.setIfInBounds_toArray, List.set_cons_zero, List.set_cons_succ, i64_w, i32_w]
                              rfl
                            refine pure_ (i := 8) (N := some 45) (v := ?_) (a' := ?_) #[true, true, true, true, true, true, false, true, true, false, false, false, false, false, false, false, false, false, false, false, false, false, false, false, false, false, false, false, false, false, false, false, false, false, false, false, false, false, false, false, false, false, false, false, false, false, false, false] rfl rfl (any_of HT_.out (by kernel_rfl)) (fun _ _ _ h => h) (Or.inl ⟨by rfl, ?_⟩) ?_ ?_
                            rotate_left
                            · intro w'
                              go_simp
                              first | with_reducible rfl | (have hq_ := of_decide_eq_true c15b1; have hl_ := (Kd.R_reads' HO220.out).2.1; rw [if_pos (by omega)] <;> with_reducible rfl) | (have hq_ := of_decide_eq_true c15b1; have hl_ := (Kd.R_reads' HO227.out).2.1; rw [if_pos (by omega)] <;> with_reducible rfl) | (have hq_ := of_decide_eq_true c15b1; have hl_ := (Kd.R_reads' HO234.out).2.1; rw [if_pos (by omega)] <;> with_reducible rfl) | (have hq_ := of_decide_eq_true c15b1; have hl_ := (Kd.R_reads' HO238.out).2.1; rw [if_pos (by omega)] <;> with_reducible rfl) | (have hq_ := of_decide_eq_true c15b1; have hl_ := (Kd.R_reads' HO260.out).2.1; rw [if_pos (by omega)] <;> with_reducible rfl) | (have hq_ := of_decide_eq_true c25b1; have hl_ := (Kd.R_reads' HO220.out).2.1; rw [if_pos (by omega)] <;> with_reducible rfl) | (have hq_ := of_decide_eq_true c25b1; have hl_ := (Kd.R_reads' HO227.out).2.1; rw [if_pos (by omega)] <;> with_reducible rfl) | (have hq_ := of_decide_eq_true c25b1; have hl_ := (Kd.R_reads' HO234.out).2.1; rw [if_pos (by omega)] <;> with_reducible rfl) | (have hq_ := of_decide_eq_true c25b1; have hl_ := (Kd.R_reads' HO238.out).2.1; rw [if_pos (by omega)] <;> with_reducible rfl) | (have hq_ := of_decide_eq_true c25b1; have hl_ := (Kd.R_reads' HO260.out).2.1; rw [if_pos (by omega)] <;> with_reducible rfl)
                            rotate_left
                            · simp only [Act.put, List.setIfInBounds_toArray, List.set_cons_zero, List.set_cons_succ, i64_w, i32_w]
                              rfl
                            refine one_ (i := 6) (N := some 43) #[true, true, true, true, true, true, true, true, true, false, false, false, false, false, false, false, false, false, false, false, false, false, false, false, false, false, false, false, false, false, false, false, false, false, false, false, false, false, false, false, false, false, false, false, false, false, false, false] rfl rfl (one_of HT_.out (by kernel_rfl)) (by decide) (fun K hK => ?_)
                            refine goes_ Try.func10 (by kernel_rfl) rfl #[.int .i64 2, .slice (some ad221) y218.length co36] (by rfl) rfl rfl (by (try simp only [List.map_toArray, List.map_cons, List.map_nil]); first | done | rfl | (simp only [List.length_drop, List.length_take]; rfl) | (have qy239 : y239.length = 2 := (by (rw [Ny239.out, List.length_take]; have := of_decide_eq_true c15b1; omega));  simp only [qy239] <;> rfl)) ?_
                            with_reducible refine (rank_Top.calls 2 _ _ y218 t236 _ ?side1 ?side2 A14.out).mono ?_
                            (case side1 => repeat (first | exact (Kd.R_reads' HO220.out).2.2 | (with_reducible refine Kd.C_alloc ?_ _) | (with_reducible refine Kd.C_drewN ?_ _) | (with_reducible refine Kd.C_drew ?_)))
                            (case side2 => exact (Kd.R_reads' HO220.out).2.1)
                            rintro e w45 ⟨v237, rfl, ho0, hb⟩
                            have HS0_ := (hb.cell (World.block_lt_of_cell? _ _ (hHeld.1))).trans (hHeld.1)
                            have HS1_ := (hb.cell (World.block_lt_of_cell? _ _ (hHeld.2.1))).trans (hHeld.2.1)
                            have HS2_ := (hb.cell (World.block_lt_of_cell? _ _ (hHeld.2.2.1))).trans (hHeld.2.2.1)
                            have HS3_ := (hb.cell (World.block_lt_of_cell? _ _ (hHeld.2.2.2.1))).trans (hHeld.2.2.2.1)
                            have HS4_ := (hb.cell (World.block_lt_of_cell? _ _ (hHeld.2.2.2.2.1))).trans (hHeld.2.2.2.2.1)
                            have HS5_ := (hb.cell (World.block_lt_of_cell? _ _ (hHeld.2.2.2.2.2.1))).trans (hHeld.2.2.2.2.2.1)
                            have HS6_ := (hb.cell (World.block_lt_of_cell? _ _ (hHeld.2.2.2.2.2.2.1))).trans (hHeld.2.2.2.2.2.2.1)
                            have HS7_ := (hb.cell (World.block_lt_of_cell? _ _ (hHeld.2.2.2.2.2.2.2.1))).trans (hHeld.2.2.2.2.2.2.2.1)
                            have HS8_ := (hb.cell (World.block_lt_of_cell? _ _ (hHeld.2.2.2.2.2.2.2.2.1))).trans (hHeld.2.2.2.2.2.2.2.2.1)
                            have HS9_ := (hb.cell (World.block_lt_of_cell? _ _ (hHeld.2.2.2.2.2.2.2.2.2.1))).trans (hHeld.2.2.2.2.2.2.2.2.2.1)
                            have HS10_ := (hb.cell (World.block_lt_of_cell? _ _ (hHeld.2.2.2.2.2.2.2.2.2.2.1))).trans (hHeld.2.2.2.2.2.2.2.2.2.2.1)
                            have HS11_ := (hb.cell (World.block_lt_of_cell? _ _ (hHeld.2.2.2.2.2.2.2.2.2.2.2))).trans (hHeld.2.2.2.2.2.2.2.2.2.2.2)
                            refine ⟨_, rfl, ?_⟩
                            have n0_ := Aside0.mk (Kd.R_elder' (by (with_reducible repeat (first | apply Kd.R_alloc | apply Kd.R_drewN | apply Kd.R_drew)); exact HO220.out) (Kd.R_base ho0) hb)
                            have n1_ := Aside0.mk (Kd.R_elder' (by (with_reducible repeat (first | apply Kd.R_alloc | apply Kd.R_drewN | apply Kd.R_drew)); exact HO227.out) (Kd.R_base ho0) hb)
                            have n2_ := Aside0.mk (Kd.R_elder' (by (with_reducible repeat (first | apply Kd.R_alloc | apply Kd.R_drewN | apply Kd.R_drew)); exact HO234.out) (Kd.R_base ho0) hb)
                            have n3_ := Aside0.mk (Kd.R_lower (Kd.R_new' (Kd.R_new' (Kd.R_new' ho0 (Kd.R_lt (by (with_reducible repeat (first | apply Kd.R_alloc | apply Kd.R_drewN | apply Kd.R_drew)); exact HO220.out))) (Kd.R_lt (by (with_reducible repeat (first | apply Kd.R_alloc | apply Kd.R_drewN | apply Kd.R_drew)); exact HO227.out))) (Kd.R_lt (by (with_reducible repeat (first | apply Kd.R_alloc | apply Kd.R_drewN | apply Kd.R_drew)); exact HO234.out))) (below_size (by repeat (first | (with_reducible first | exact HB.out | apply below_alloc | apply pw_below_drewN | apply below_drew1) | exact HB.out))))
                            have n4_ := Aside0.mk (below_step (by repeat (first | (with_reducible first | exact HB.out | apply below_alloc | apply pw_below_drewN | apply below_drew1) | exact HB.out)) hb)
                            clear HO220
                            clear HO227
                            clear HO234
                            clear HB
                            have HO220 := n0_
                            have HO227 := n1_
                            have HO234 := n2_
                            have HO238 := n3_
                            have HB := n4_
                            clear n0_ n1_ n2_ n3_ n4_
                            (try clear hb)
                            (try clear hb2)
                            (try clear hk)
                            (try clear hi)
                            (try clear ho0)
                            have q46 : (2 : Int) ≤ ((y225.length : Int) : Int) := of_decide_eq_true (by first | (with_reducible assumption) | assumption)
                            obtain ⟨i046, hi046, _, hsz46, _⟩ := info_parts info34
                            have hroom46 : y225.length ≤ co44 := (Kd.R_reads' HO227.out).2.1
                            have hC46 : Kd.C k34 _ Ao44 y225.length y225 := (Kd.R_reads' HO227.out).2.2
                            have hcut46 := cut_to (P := Try.prog) 22 34 .i64 Try.underlying22 hi046 Ao44 y225.length co44 2 (by omega) q46 hroom46
                            have hr46 := Kd.C_take (m := 2) hC46 (by omega)
                            have hy46 : y239.length = (2 : Int).toNat := (by rw [Ny239.out, List.length_take]; omega)
                            rw [← Ny239.out] at hr46
                            rw [← hy46] at hcut46
                            have HR242 := Aside0.mk hr46
                            have HC242 := Aside0.mk (show y239.length ≤ co44 from by omega)
                            clear hr46 hC46 hroom46 hi046 hsz46
                            have KY46 := Aside0.mk hy46
                            clear hy46
                            have KL46 := Aside0.mk (show 2 ≤ y225.length from by omega)
                            replace q46 := eq_true q46
                            obtain ⟨Ao47, co47, eo47⟩ := Kd.R_slice HO238.out
                            (first | subst eo47 | (injection eo47 with f1_ f2_ f3_; have f4_ := f1_.symm; have f5_ := f3_.symm; clear f1_ f2_ f3_; subst f4_; subst f5_))
                            refine hK.out _ _ ⟨HS0_, HS1_, HS2_, HS3_, HS4_, HS5_, HS6_, HS7_, HS8_, HS9_, HS10_, HS11_⟩ (fun hHeld => ?_)
                            clear hK K
                            refine norm_ (a' := ?_) ?_ ?_
                            rotate_left
                            · show Act.put _ (some 43) _ = _
                              simp only [Act.put, List.setIfInBounds_toArray, List.set_cons_zero, List.set_cons_succ, i64_w, i32_w]
                              rfl
                            refine one_ (i := 9) (N := some 46) #[true, true, true, true, true, true, true, true, true, true, false, false, false, false, false, false, false, false, false, false, false, false, false, false, false, false, false, false, false, false, false, false, false, false, false, false, false, false, false, false, false, false, false, false, false, false, false, false] rfl rfl (one_of HT_.out (by kernel_rfl)) (by decide) (fun K hK => ?_)
                            refine goes_ Try.func14 (by kernel_rfl) rfl #[.slice Ao47 t236.length co47, .slice Ao44 y239.length co44] (by rfl) rfl rfl (by (try simp only [List.map_toArray, List.map_cons, List.map_nil]); first | done | rfl | (simp only [List.length_drop, List.length_take]; rfl) | (have qy239 : y239.length = 2 := (by (rw [Ny239.out, List.length_take]; have := of_decide_eq_true c15b1; omega));  simp only [qy239] <;> rfl)) ?_
                            with_reducible refine (watchmanref07_Same.calls k _ _ t236 _ _ y239 true _ ?side1 ?side2 ?side3 ?side4 A16.out).mono ?_
                            (case side1 => repeat (first | exact (Kd.R_reads' HO238.out).2.2 | (with_reducible refine Kd.C_alloc ?_ _) | (with_reducible refine Kd.C_drewN ?_ _) | (with_reducible refine Kd.C_drew ?_)))
                            (case side2 => exact (Kd.R_reads' HO238.out).2.1)
                            (case side3 => repeat (first | exact (by repeat (first | (with_reducible exact HR242.out) | (with_reducible refine Kd.C_alloc ?_ _) | (with_reducible refine Kd.C_drewN ?_ _) | (with_reducible refine Kd.C_drew ?_) | exact HR242.out)) | (with_reducible refine Kd.C_alloc ?_ _) | (with_reducible refine Kd.C_drewN ?_ _) | (with_reducible refine Kd.C_drew ?_)))
                            (case side4 => exact HC242.out)
                            rintro e w' ⟨rfl, ⟨nd, rfl⟩⟩
                            refine ⟨_, rfl, ?_⟩
                            refine hK.out _ _ ⟨hHeld.1, hHeld.2.1, hHeld.2.2.1, hHeld.2.2.2.1, hHeld.2.2.2.2.1, hHeld.2.2.2.2.2.1, hHeld.2.2.2.2.2.2.1, hHeld.2.2.2.2.2.2.2.1, hHeld.2.2.2.2.2.2.2.2.1, hHeld.2.2.2.2.2.2.2.2.2.1, hHeld.2.2.2.2.2.2.2.2.2.2.1, hHeld.2.2.2.2.2.2.2.2.2.2.2⟩ (fun hHeld => ?_)
                            clear hK K
                            refine norm_ (a' := ?_) ?_ ?_
                            rotate_left
                            · show Act.put _ (some 46) _ = _
                              simp only [Act.put, List.setIfInBounds_toArray, List.set_cons_zero, List.set_cons_succ, i64_w, i32_w]
                              rfl
                            refine pure_ (i := 10) (N := some 47) (v := ?_) (a' := ?_) #[true, true, true, true, true, true, true, true, true, true, true, false, false, false, false, false, false, false, false, false, false, false, false, false, false, false, false, false, false, false, false, false, false, false, false, false, false, false, false, false, false, false, false, false, false, false, false, false] rfl rfl (any_of HT_.out (by kernel_rfl)) (fun _ _ _ h => h) (Or.inl ⟨by rfl, ?_⟩) ?_ ?_
                            rotate_left
                            · intro w'
                              go_simp
                              first | with_reducible rfl | (have hq_ := of_decide_eq_true c15b1; have hl_ := (Kd.R_reads' HO220.out).2.1; rw [if_pos (by omega)] <;> with_reducible rfl) | (have hq_ := of_decide_eq_true c15b1; have hl_ := (Kd.R_reads' HO227.out).2.1; rw [if_pos (by omega)] <;> with_reducible rfl) | (have hq_ := of_decide_eq_true c15b1; have hl_ := (Kd.R_reads' HO234.out).2.1; rw [if_pos (by omega)] <;> with_reducible rfl) | (have hq_ := of_decide_eq_true c15b1; have hl_ := (Kd.R_reads' HO238.out).2.1; rw [if_pos (by omega)] <;> with_reducible rfl) | (have hq_ := of_decide_eq_true c15b1; have hl_ := (Kd.R_reads' HO260.out).2.1; rw [if_pos (by omega)] <;> with_reducible rfl) | (have hq_ := of_decide_eq_true c25b1; have hl_ := (Kd.R_reads' HO220.out).2.1; rw [if_pos (by omega)] <;> with_reducible rfl) | (have hq_ := of_decide_eq_true c25b1; have hl_ := (Kd.R_reads' HO227.out).2.1; rw [if_pos (by omega)] <;> with_reducible rfl) | (have hq_ := of_decide_eq_true c25b1; have hl_ := (Kd.R_reads' HO234.out).2.1; rw [if_pos (by omega)] <;> with_reducible rfl) | (have hq_ := of_decide_eq_true c25b1; have hl_ := (Kd.R_reads' HO238.out).2.1; rw [if_pos (by omega)] <;> with_reducible rfl) | (have hq_ := of_decide_eq_true c25b1; have hl_ := (Kd.R_reads' HO260.out).2.1; rw [if_pos (by omega)] <;> with_reducible rfl)
                            rotate_left
                            · simp only [Act.put, List.setIfInBounds_toArray, List.set_cons_zero, List.set_cons_succ, i64_w, i32_w]
                              rfl
                            refine pure_ (i := 11) (N := some 48) (v := ?_) (a' := ?_) #[true, true, true, true, true, true, true, true, true, true, true, true, false, false, false, false, false, false, false, false, false, false, false, false, false, false, false, false, false, false, false, false, false, false, false, false, false, false, false, false, false, false, false, false, false, false, false, false] rfl rfl (any_of HT_.out (by kernel_rfl)) (fun _ _ _ h => h) (Or.inl ⟨by rfl, ?_⟩) ?_ ?_
                            rotate_left
                            · intro w'
                              go_simp
                              first | with_reducible rfl | (have hq_ := of_decide_eq_true c15b1; have hl_ := (Kd.R_reads' HO220.out).2.1; rw [if_pos (by omega)] <;> with_reducible rfl) | (have hq_ := of_decide_eq_true c15b1; have hl_ := (Kd.R_reads' HO227.out).2.1; rw [if_pos (by omega)] <;> with_reducible rfl) | (have hq_ := of_decide_eq_true c15b1; have hl_ := (Kd.R_reads' HO234.out).2.1; rw [if_pos (by omega)] <;> with_reducible rfl) | (have hq_ := of_decide_eq_true c15b1; have hl_ := (Kd.R_reads' HO238.out).2.1; rw [if_pos (by omega)] <;> with_reducible rfl) | (have hq_ := of_decide_eq_true c15b1; have hl_ := (Kd.R_reads' HO260.out).2.1; rw [if_pos (by omega)] <;> with_reducible rfl) | (have hq_ := of_decide_eq_true c25b1; have hl_ := (Kd.R_reads' HO220.out).2.1; rw [if_pos (by omega)] <;> with_reducible rfl) | (have hq_ := of_decide_eq_true c25b1; have hl_ := (Kd.R_reads' HO227.out).2.1; rw [if_pos (by omega)] <;> with_reducible rfl) | (have hq_ := of_decide_eq_true c25b1; have hl_ := (Kd.R_reads' HO234.out).2.1; rw [if_pos (by omega)] <;> with_reducible rfl) | (have hq_ := of_decide_eq_true c25b1; have hl_ := (Kd.R_reads' HO238.out).2.1; rw [if_pos (by omega)] <;> with_reducible rfl) | (have hq_ := of_decide_eq_true c25b1; have hl_ := (Kd.R_reads' HO260.out).2.1; rw [if_pos (by omega)] <;> with_reducible rfl)
                            rotate_left
                            · simp only [Act.put, List.setIfInBounds_toArray, List.set_cons_zero, List.set_cons_succ, i64_w, i32_w]
                              rfl
                            refine pure_ (i := 12) (N := some 49) (v := ?_) (a' := ?_) #[true, true, true, true, true, true, true, true, true, true, true, true, true, false, false, false, false, false, false, false, false, false, false, false, false, false, false, false, false, false, false, false, false, false, false, false, false, false, false, false, false, false, false, false, false, false, false, false] rfl rfl (any_of HT_.out (by kernel_rfl)) (fun _ _ _ h => h) (Or.inl ⟨by rfl, ?_⟩) ?_ ?_
                            rotate_left
                            · intro w'
                              go_simp
                              first | with_reducible rfl | (have hq_ := of_decide_eq_true c15b1; have hl_ := (Kd.R_reads' HO220.out).2.1; rw [if_pos (by omega)] <;> with_reducible rfl) | (have hq_ := of_decide_eq_true c15b1; have hl_ := (Kd.R_reads' HO227.out).2.1; rw [if_pos (by omega)] <;> with_reducible rfl) | (have hq_ := of_decide_eq_true c15b1; have hl_ := (Kd.R_reads' HO234.out).2.1; rw [if_pos (by omega)] <;> with_reducible rfl) | (have hq_ := of_decide_eq_true c15b1; have hl_ := (Kd.R_reads' HO238.out).2.1; rw [if_pos (by omega)] <;> with_reducible rfl) | (have hq_ := of_decide_eq_true c15b1; have hl_ := (Kd.R_reads' HO260.out).2.1; rw [if_pos (by omega)] <;> with_reducible rfl) | (have hq_ := of_decide_eq_true c25b1; have hl_ := (Kd.R_reads' HO220.out).2.1; rw [if_pos (by omega)] <;> with_reducible rfl) | (have hq_ := of_decide_eq_true c25b1; have hl_ := (Kd.R_reads' HO227.out).2.1; rw [if_pos (by omega)] <;> with_reducible rfl) | (have hq_ := of_decide_eq_true c25b1; have hl_ := (Kd.R_reads' HO234.out).2.1; rw [if_pos (by omega)] <;> with_reducible rfl) | (have hq_ := of_decide_eq_true c25b1; have hl_ := (Kd.R_reads' HO238.out).2.1; rw [if_pos (by omega)] <;> with_reducible rfl) | (have hq_ := of_decide_eq_true c25b1; have hl_ := (Kd.R_reads' HO260.out).2.1; rw [if_pos (by omega)] <;> with_reducible rfl)
                            rotate_left
                            · simp only [Act.put, List.setIfInBounds_toArray, List.set_cons_zero, List.set_cons_succ, i64_w, i32_w]
                              rfl
                            refine one_ (i := 13) (N := some 50) #[true, true, true, true, true, true, true, true, true, true, true, true, true, true, false, false, false, false, false, false, false, false, false, false, false, false, false, false, false, false, false, false, false, false, false, false, false, false, false, false, false, false, false, false, false, false, false, false] rfl rfl (one_of HT_.out (by kernel_rfl)) (by decide) (fun K hK => ?_)
                            refine goes_ Try.func10 (by kernel_rfl) rfl #[.int .i64 0, .slice (some ad221) y218.length co36] (by rfl) rfl rfl (by (try simp only [List.map_toArray, List.map_cons, List.map_nil]); first | done | rfl | (simp only [List.length_drop, List.length_take]; rfl) | (have qy239 : y239.length = 2 := (by (rw [Ny239.out, List.length_take]; have := of_decide_eq_true c15b1; omega));  simp only [qy239] <;> rfl)) ?_
                            with_reducible refine (rank_Top.calls 0 _ _ y218 t244 _ ?side1 ?side2 A18.out).mono ?_
                            (case side1 => repeat (first | exact (Kd.R_reads' HO220.out).2.2 | (with_reducible refine Kd.C_alloc ?_ _) | (with_reducible refine Kd.C_drewN ?_ _) | (with_reducible refine Kd.C_drew ?_)))
                            (case side2 => exact (Kd.R_reads' HO220.out).2.1)
                            rintro e w48 ⟨v245, rfl, ho0, hb⟩
                            have HS0_ := (hb.cell (World.block_lt_of_cell? _ _ (hHeld.1))).trans (hHeld.1)
                            have HS1_ := (hb.cell (World.block_lt_of_cell? _ _ (hHeld.2.1))).trans (hHeld.2.1)
                            have HS2_ := (hb.cell (World.block_lt_of_cell? _ _ (hHeld.2.2.1))).trans (hHeld.2.2.1)
                            have HS3_ := (hb.cell (World.block_lt_of_cell? _ _ (hHeld.2.2.2.1))).trans (hHeld.2.2.2.1)
                            have HS4_ := (hb.cell (World.block_lt_of_cell? _ _ (hHeld.2.2.2.2.1))).trans (hHeld.2.2.2.2.1)
                            have HS5_ := (hb.cell (World.block_lt_of_cell? _ _ (hHeld.2.2.2.2.2.1))).trans (hHeld.2.2.2.2.2.1)
                            have HS6_ := (hb.cell (World.block_lt_of_cell? _ _ (hHeld.2.2.2.2.2.2.1))).trans (hHeld.2.2.2.2.2.2.1)
                            have HS7_ := (hb.cell (World.block_lt_of_cell? _ _ (hHeld.2.2.2.2.2.2.2.1))).trans (hHeld.2.2.2.2.2.2.2.1)
                            have HS8_ := (hb.cell (World.block_lt_of_cell? _ _ (hHeld.2.2.2.2.2.2.2.2.1))).trans (hHeld.2.2.2.2.2.2.2.2.1)
                            have HS9_ := (hb.cell (World.block_lt_of_cell? _ _ (hHeld.2.2.2.2.2.2.2.2.2.1))).trans (hHeld.2.2.2.2.2.2.2.2.2.1)
                            have HS10_ := (hb.cell (World.block_lt_of_cell? _ _ (hHeld.2.2.2.2.2.2.2.2.2.2.1))).trans (hHeld.2.2.2.2.2.2.2.2.2.2.1)
                            have HS11_ := (hb.cell (World.block_lt_of_cell? _ _ (hHeld.2.2.2.2.2.2.2.2.2.2.2))).trans (hHeld.2.2.2.2.2.2.2.2.2.2.2)
                            refine ⟨_, rfl, ?_⟩
                            have n0_ := Aside0.mk (Kd.R_elder' (by (with_reducible repeat (first | apply Kd.R_alloc | apply Kd.R_drewN | apply Kd.R_drew)); exact HO220.out) (Kd.R_base ho0) hb)
                            have n1_ := Aside0.mk (Kd.R_elder' (by (with_reducible repeat (first | apply Kd.R_alloc | apply Kd.R_drewN | apply Kd.R_drew)); exact HO227.out) (Kd.R_base ho0) hb)
                            have n2_ := Aside0.mk (Kd.R_elder' (by (with_reducible repeat (first | apply Kd.R_alloc | apply Kd.R_drewN | apply Kd.R_drew)); exact HO234.out) (Kd.R_base ho0) hb)
                            have n3_ := Aside0.mk (Kd.R_elder' (by (with_reducible repeat (first | apply Kd.R_alloc | apply Kd.R_drewN | apply Kd.R_drew)); exact HO238.out) (Kd.R_base ho0) hb)
                            have n4_ := Aside0.mk (Kd.R_lower (Kd.R_new' (Kd.R_new' (Kd.R_new' (Kd.R_new' ho0 (Kd.R_lt (by (with_reducible repeat (first | apply Kd.R_alloc | apply Kd.R_drewN | apply Kd.R_drew)); exact HO220.out))) (Kd.R_lt (by (with_reducible repeat (first | apply Kd.R_alloc | apply Kd.R_drewN | apply Kd.R_drew)); exact HO227.out))) (Kd.R_lt (by (with_reducible repeat (first | apply Kd.R_alloc | apply Kd.R_drewN | apply Kd.R_drew)); exact HO234.out))) (Kd.R_lt (by (with_reducible repeat (first | apply Kd.R_alloc | apply Kd.R_drewN | apply Kd.R_drew)); exact HO238.out))) (below_size (by repeat (first | (with_reducible first | exact HB.out | apply below_alloc | apply pw_below_drewN | apply below_drew1) | exact HB.out))))
                            have n5_ := Aside0.mk (Kd.C_below (by repeat (first | (with_reducible exact HR242.out) | (with_reducible refine Kd.C_alloc ?_ _) | (with_reducible refine Kd.C_drewN ?_ _) | (with_reducible refine Kd.C_drew ?_) | exact HR242.out)) hb)
                            have n6_ := Aside0.mk (below_step (by repeat (first | (with_reducible first | exact HB.out | apply below_alloc | apply pw_below_drewN | apply below_drew1) | exact HB.out)) hb)
                            clear HO220
                            clear HO227
                            clear HO234
                            clear HO238
                            clear HR242
                            clear HB
                            have HO220 := n0_
                            have HO227 := n1_
                            have HO234 := n2_
                            have HO238 := n3_
                            have HO246 := n4_
                            have HR242 := n5_
                            have HB := n6_
                            clear n0_ n1_ n2_ n3_ n4_ n5_ n6_
                            (try clear hb)
                            (try clear hb2)
                            (try clear hk)
                            (try clear hi)
                            (try clear ho0)
                            obtain ⟨Ao49, co49, eo49⟩ := Kd.R_slice HO246.out
                            (first | subst eo49 | (injection eo49 with f1_ f2_ f3_; have f4_ := f1_.symm; have f5_ := f3_.symm; clear f1_ f2_ f3_; subst f4_; subst f5_))
                            refine hK.out _ _ ⟨HS0_, HS1_, HS2_, HS3_, HS4_, HS5_, HS6_, HS7_, HS8_, HS9_, HS10_, HS11_⟩ (fun hHeld => ?_)
                            clear hK K
                            refine norm_ (a' := ?_) ?_ ?_
                            rotate_left
                            · show Act.put _ (some 50) _ = _
                              simp only [Act.put, List.setIfInBounds_toArray, List.set_cons_zero, List.set_cons_succ, i64_w, i32_w]
                              rfl
                            refine pure_ (i := 14) (N := some 51) (v := ?_) (a' := ?_) #[true, true, true, true, true, true, true, true, true, true, true, true, true, true, true, false, false, false, false, false, false, false, false, false, false, false, false, false, false, false, false, false, false, false, false, false, false, false, false, false, false, false, false, false, false, false, false, false] rfl rfl (any_of HT_.out (by kernel_rfl)) (fun _ _ _ h => h) (Or.inl ⟨by rfl, ?_⟩) ?_ ?_
                            rotate_left
                            · intro w'
                              go_simp
                              first | with_reducible rfl | (have hq_ := of_decide_eq_true c15b1; have hl_ := (Kd.R_reads' HO220.out).2.1; rw [if_pos (by omega)] <;> with_reducible rfl) | (have hq_ := of_decide_eq_true c15b1; have hl_ := (Kd.R_reads' HO227.out).2.1; rw [if_pos (by omega)] <;> with_reducible rfl) | (have hq_ := of_decide_eq_true c15b1; have hl_ := (Kd.R_reads' HO234.out).2.1; rw [if_pos (by omega)] <;> with_reducible rfl) | (have hq_ := of_decide_eq_true c15b1; have hl_ := (Kd.R_reads' HO238.out).2.1; rw [if_pos (by omega)] <;> with_reducible rfl) | (have hq_ := of_decide_eq_true c15b1; have hl_ := (Kd.R_reads' HO260.out).2.1; rw [if_pos (by omega)] <;> with_reducible rfl) | (have hq_ := of_decide_eq_true c25b1; have hl_ := (Kd.R_reads' HO220.out).2.1; rw [if_pos (by omega)] <;> with_reducible rfl) | (have hq_ := of_decide_eq_true c25b1; have hl_ := (Kd.R_reads' HO227.out).2.1; rw [if_pos (by omega)] <;> with_reducible rfl) | (have hq_ := of_decide_eq_true c25b1; have hl_ := (Kd.R_reads' HO234.out).2.1; rw [if_pos (by omega)] <;> with_reducible rfl) | (have hq_ := of_decide_eq_true c25b1; have hl_ := (Kd.R_reads' HO238.out).2.1; rw [if_pos (by omega)] <;> with_reducible rfl) | (have hq_ := of_decide_eq_true c25b1; have hl_ := (Kd.R_reads' HO260.out).2.1; rw [if_pos (by omega)] <;> with_reducible rfl)
                            rotate_left
                            · simp only [Act.put, List.setIfInBounds_toArray, List.set_cons_zero, List.set_cons_succ, i64_w, i32_w]
                              rfl
                            refine pure_ (i := 15) (N := some 52) (v := ?_) (a' := ?_) #[true, true, true, true, true, true, true, true, true, true, true, true, true, true, true, true, false, false, false, false, false, false, false, false, false, false, false, false, false, false, false, false, false, false, false, false, false, false, false, false, false, false, false, false, false, false, false, false] rfl rfl (any_of HT_.out (by kernel_rfl)) (fun _ _ _ h => h) (Or.inl ⟨by rfl, ?_⟩) ?_ ?_
                            rotate_left
                            · intro w'
                              go_simp
                              first | with_reducible rfl | (have hq_ := of_decide_eq_true c15b1; have hl_ := (Kd.R_reads' HO220.out).2.1; rw [if_pos (by omega)] <;> with_reducible rfl) | (have hq_ := of_decide_eq_true c15b1; have hl_ := (Kd.R_reads' HO227.out).2.1; rw [if_pos (by omega)] <;> with_reducible rfl) | (have hq_ := of_decide_eq_true c15b1; have hl_ := (Kd.R_reads' HO234.out).2.1; rw [if_pos (by omega)] <;> with_reducible rfl) | (have hq_ := of_decide_eq_true c15b1; have hl_ := (Kd.R_reads' HO238.out).2.1; rw [if_pos (by omega)] <;> with_reducible rfl) | (have hq_ := of_decide_eq_true c15b1; have hl_ := (Kd.R_reads' HO260.out).2.1; rw [if_pos (by omega)] <;> with_reducible rfl) | (have hq_ := of_decide_eq_true c25b1; have hl_ := (Kd.R_reads' HO220.out).2.1; rw [if_pos (by omega)] <;> with_reducible rfl) | (have hq_ := of_decide_eq_true c25b1; have hl_ := (Kd.R_reads' HO227.out).2.1; rw [if_pos (by omega)] <;> with_reducible rfl) | (have hq_ := of_decide_eq_true c25b1; have hl_ := (Kd.R_reads' HO234.out).2.1; rw [if_pos (by omega)] <;> with_reducible rfl) | (have hq_ := of_decide_eq_true c25b1; have hl_ := (Kd.R_reads' HO238.out).2.1; rw [if_pos (by omega)] <;> with_reducible rfl) | (have hq_ := of_decide_eq_true c25b1; have hl_ := (Kd.R_reads' HO260.out).2.1; rw [if_pos (by omega)] <;> with_reducible rfl)
                            rotate_left
                            · simp only [Act.put, List.setIfInBounds_toArray, List.set_cons_zero, List.set_cons_succ, i64_w, i32_w]
                              rfl
                            refine pure_ (i := 16) (N := some 53) (v := ?_) (a' := ?_) #[true, true, true, true, true, true, true, true, true, true, true, true, true, true, true, true, true, false, false, false, false, false, false, false, false, false, false, false, false, false, false, false, false, false, false, false, false, false, false, false, false, false, false, false, false, false, false, false] rfl rfl (any_of HT_.out (by kernel_rfl)) (fun _ _ _ h => h) (Or.inl ⟨by rfl, ?_⟩) ?_ ?_
                            rotate_left
                            · intro w'
                              go_simp
                              first | with_reducible rfl | (have hq_ := of_decide_eq_true c15b1; have hl_ := (Kd.R_reads' HO220.out).2.1; rw [if_pos (by omega)] <;> with_reducible rfl) | (have hq_ := of_decide_eq_true c15b1; have hl_ := (Kd.R_reads' HO227.out).2.1; rw [if_pos (by omega)] <;> with_reducible rfl) | (have hq_ := of_decide_eq_true c15b1; have hl_ := (Kd.R_reads' HO234.out).2.1; rw [if_pos (by omega)] <;> with_reducible rfl) | (have hq_ := of_decide_eq_true c15b1; have hl_ := (Kd.R_reads' HO238.out).2.1; rw [if_pos (by omega)] <;> with_reducible rfl) | (have hq_ := of_decide_eq_true c15b1; have hl_ := (Kd.R_reads' HO260.out).2.1; rw [if_pos (by omega)] <;> with_reducible rfl) | (have hq_ := of_decide_eq_true c25b1; have hl_ := (Kd.R_reads' HO220.out).2.1; rw [if_pos (by omega)] <;> with_reducible rfl) | (have hq_ := of_decide_eq_true c25b1; have hl_ := (Kd.R_reads' HO227.out).2.1; rw [if_pos (by omega)] <;> with_reducible rfl) | (have hq_ := of_decide_eq_true c25b1; have hl_ := (Kd.R_reads' HO234.out).2.1; rw [if_pos (by omega)] <;> with_reducible rfl) | (have hq_ := of_decide_eq_true c25b1; have hl_ := (Kd.R_reads' HO238.out).2.1; rw [if_pos (by omega)] <;> with_reducible rfl) | (have hq_ := of_decide_eq_true c25b1; have hl_ := (Kd.R_reads' HO260.out).2.1; rw [if_pos (by omega)] <;> with_reducible rfl)
                            rotate_left
                            · simp only [Act.put, List.setIfInBounds_toArray, List.set_cons_zero, List.set_cons_succ, i64_w, i32_w]
                              rfl
                            refine pure_ (i := 17) (N := some 54) (v := ?_) (a' := ?_) #[true, true, true, true, true, true, true, true, true, true, true, true, true, true, true, true, true, true, false, false, false, false, false, false, false, false, false, false, false, false, false, false, false, false, false, false, false, false, false, false, false, false, false, false, false, false, false, false] rfl rfl (any_of HT_.out (by kernel_rfl)) (fun _ _ _ h => h) (Or.inl ⟨by rfl, ?_⟩) ?_ ?_
                            rotate_left
                            · intro w'
                              go_simp
                              first | with_reducible rfl | (have hq_ := of_decide_eq_true c15b1; have hl_ := (Kd.R_reads' HO220.out).2.1; rw [if_pos (by omega)] <;> with_reducible rfl) | (have hq_ := of_decide_eq_true c15b1; have hl_ := (Kd.R_reads' HO227.out).2.1; rw [if_pos (by omega)] <;> with_reducible rfl) | (have hq_ := of_decide_eq_true c15b1; have hl_ := (Kd.R_reads' HO234.out).2.1; rw [if_pos (by omega)] <;> with_reducible rfl) | (have hq_ := of_decide_eq_true c15b1; have hl_ := (Kd.R_reads' HO238.out).2.1; rw [if_pos (by omega)] <;> with_reducible rfl) | (have hq_ := of_decide_eq_true c15b1; have hl_ := (Kd.R_reads' HO260.out).2.1; rw [if_pos (by omega)] <;> with_reducible rfl) | (have hq_ := of_decide_eq_true c25b1; have hl_ := (Kd.R_reads' HO220.out).2.1; rw [if_pos (by omega)] <;> with_reducible rfl) | (have hq_ := of_decide_eq_true c25b1; have hl_ := (Kd.R_reads' HO227.out).2.1; rw [if_pos (by omega)] <;> with_reducible rfl) | (have hq_ := of_decide_eq_true c25b1; have hl_ := (Kd.R_reads' HO234.out).2.1; rw [if_pos (by omega)] <;> with_reducible rfl) | (have hq_ := of_decide_eq_true c25b1; have hl_ := (Kd.R_reads' HO238.out).2.1; rw [if_pos (by omega)] <;> with_reducible rfl) | (have hq_ := of_decide_eq_true c25b1; have hl_ := (Kd.R_reads' HO260.out).2.1; rw [if_pos (by omega)] <;> with_reducible rfl)
                            rotate_left
                            · simp only [Act.put, List.setIfInBounds_toArray, List.set_cons_zero, List.set_cons_succ, i64_w, i32_w]
                              rfl
                            refine pure_ (i := 18) (N := some 55) (v := ?_) (a' := ?_) #[true, true, true, true, true, true, true, true, true, true, true, true, true, true, true, true, true, true, true, false, false, false, false, false, false, false, false, false, false, false, false, false, false, false, false, false, false, false, false, false, false, false, false, false, false, false, false, false] rfl rfl (any_of HT_.out (by kernel_rfl)) (fun _ _ _ h => h) (Or.inl ⟨by rfl, ?_⟩) ?_ ?_
                            rotate_left
                            · intro w'
                              go_simp
                              first | with_reducible rfl | (have hq_ := of_decide_eq_true c15b1; have hl_ := (Kd.R_reads' HO220.out).2.1; rw [if_pos (by omega)] <;> with_reducible rfl) | (have hq_ := of_decide_eq_true c15b1; have hl_ := (Kd.R_reads' HO227.out).2.1; rw [if_pos (by omega)] <;> with_reducible rfl) | (have hq_ := of_decide_eq_true c15b1; have hl_ := (Kd.R_reads' HO234.out).2.1; rw [if_pos (by omega)] <;> with_reducible rfl) | (have hq_ := of_decide_eq_true c15b1; have hl_ := (Kd.R_reads' HO238.out).2.1; rw [if_pos (by omega)] <;> with_reducible rfl) | (have hq_ := of_decide_eq_true c15b1; have hl_ := (Kd.R_reads' HO260.out).2.1; rw [if_pos (by omega)] <;> with_reducible rfl) | (have hq_ := of_decide_eq_true c25b1; have hl_ := (Kd.R_reads' HO220.out).2.1; rw [if_pos (by omega)] <;> with_reducible rfl) | (have hq_ := of_decide_eq_true c25b1; have hl_ := (Kd.R_reads' HO227.out).2.1; rw [if_pos (by omega)] <;> with_reducible rfl) | (have hq_ := of_decide_eq_true c25b1; have hl_ := (Kd.R_reads' HO234.out).2.1; rw [if_pos (by omega)] <;> with_reducible rfl) | (have hq_ := of_decide_eq_true c25b1; have hl_ := (Kd.R_reads' HO238.out).2.1; rw [if_pos (by omega)] <;> with_reducible rfl) | (have hq_ := of_decide_eq_true c25b1; have hl_ := (Kd.R_reads' HO260.out).2.1; rw [if_pos (by omega)] <;> with_reducible rfl)
                            rotate_left
                            · simp only [Act.put, List.setIfInBounds_toArray, List.set_cons_zero, List.set_cons_succ, i64_w, i32_w]
                              rfl
                            refine pure_ (i := 19) (N := some 56) (v := ?_) (a' := ?_) #[true, true, true, true, true, true, true, true, true, true, true, true, true, true, true, true, true, true, true, true, false, false, false, false, false, false, false, false, false, false, false, false, false, false, false, false, false, false, false, false, false, false, false, false, false, false, false, false] rfl rfl (any_of HT_.out (by kernel_rfl)) (fun _ _ _ h => h) (Or.inl ⟨by rfl, ?_⟩) ?_ ?_
                            rotate_left
                            · intro w'
                              go_simp
                              first | with_reducible rfl | (have hq_ := of_decide_eq_true c15b1; have hl_ := (Kd.R_reads' HO220.out).2.1; rw [if_pos (by omega)] <;> with_reducible rfl) | (have hq_ := of_decide_eq_true c15b1; have hl_ := (Kd.R_reads' HO227.out).2.1; rw [if_pos (by omega)] <;> with_reducible rfl) | (have hq_ := of_decide_eq_true c15b1; have hl_ := (Kd.R_reads' HO234.out).2.1; rw [if_pos (by omega)] <;> with_reducible rfl) | (have hq_ := of_decide_eq_true c15b1; have hl_ := (Kd.R_reads' HO238.out).2.1; rw [if_pos (by omega)] <;> with_reducible rfl) | (have hq_ := of_decide_eq_true c15b1; have hl_ := (Kd.R_reads' HO260.out).2.1; rw [if_pos (by omega)] <;> with_reducible rfl) | (have hq_ := of_decide_eq_true c25b1; have hl_ := (Kd.R_reads' HO220.out).2.1; rw [if_pos (by omega)] <;> with_reducible rfl) | (have hq_ := of_decide_eq_true c25b1; have hl_ := (Kd.R_reads' HO227.out).2.1; rw [if_pos (by omega)] <;> with_reducible rfl) | (have hq_ := of_decide_eq_true c25b1; have hl_ := (Kd.R_reads' HO234.out).2.1; rw [if_pos (by omega)] <;> with_reducible rfl) | (have hq_ := of_decide_eq_true c25b1; have hl_ := (Kd.R_reads' HO238.out).2.1; rw [if_pos (by omega)] <;> with_reducible rfl) | (have hq_ := of_decide_eq_true c25b1; have hl_ := (Kd.R_reads' HO260.out).2.1; rw [if_pos (by omega)] <;> with_reducible rfl)
                            rotate_left
                            · simp only [Act.put, List.setIfInBounds_toArray, List.set_cons_zero, List.set_cons_succ, i64_w, i32_w]
                              rfl
                            refine pure_ (i := 20) (N := some 57) (v := ?_) (a' := ?_) #[true, true, true, true, true, true, true, true, true, true, true, true, true, true, true, true, true, true, true, true, true, false, false, false, false, false, false, false, false, false, false, false, false, false, false, false, false, false, false, false, false, false, false, false, false, false, false, false] rfl rfl (any_of HT_.out (by kernel_rfl)) (fun _ _ _ h => h) (Or.inl ⟨by rfl, ?_⟩) ?_ ?_
                            rotate_left
                            · intro w'
                              go_simp
                              first | with_reducible rfl | (have hq_ := of_decide_eq_true c15b1; have hl_ := (Kd.R_reads' HO220.out).2.1; rw [if_pos (by omega)] <;> with_reducible rfl) | (have hq_ := of_decide_eq_true c15b1; have hl_ := (Kd.R_reads' HO227.out).2.1; rw [if_pos (by omega)] <;> with_reducible rfl) | (have hq_ := of_decide_eq_true c15b1; have hl_ := (Kd.R_reads' HO234.out).2.1; rw [if_pos (by omega)] <;> with_reducible rfl) | (have hq_ := of_decide_eq_true c15b1; have hl_ := (Kd.R_reads' HO238.out).2.1; rw [if_pos (by omega)] <;> with_reducible rfl) | (have hq_ := of_decide_eq_true c15b1; have hl_ := (Kd.R_reads' HO260.out).2.1; rw [if_pos (by omega)] <;> with_reducible rfl) | (have hq_ := of_decide_eq_true c25b1; have hl_ := (Kd.R_reads' HO220.out).2.1; rw [if_pos (by omega)] <;> with_reducible rfl) | (have hq_ := of_decide_eq_true c25b1; have hl_ := (Kd.R_reads' HO227.out).2.1; rw [if_pos (by omega)] <;> with_reducible rfl) | (have hq_ := of_decide_eq_true c25b1; have hl_ := (Kd.R_reads' HO234.out).2.1; rw [if_pos (by omega)] <;> with_reducible rfl) | (have hq_ := of_decide_eq_true c25b1; have hl_ := (Kd.R_reads' HO238.out).2.1; rw [if_pos (by omega)] <;> with_reducible rfl) | (have hq_ := of_decide_eq_true c25b1; have hl_ := (Kd.R_reads' HO260.out).2.1; rw [if_pos (by omega)] <;> with_reducible rfl)
                            rotate_left
                            · simp only [Act.put, List.setIfInBounds_toArray, List.set_cons_zero, List.set_cons_succ, i64_w, i32_w]
                              rfl
                            refine pure_ (i := 21) (N := some 58) (v := ?_) (a' := ?_) #[true, true, true, true, true, true, true, true, true, true, true, true, true, true, true, true, true, true, true, true, true, true, false, false, false, false, false, false, false, false, false, false, false, false, false, false, false, false, false, false, false, false, false, false, false, false, false, false] rfl rfl (any_of HT_.out (by kernel_rfl)) (fun _ _ _ h => h) (Or.inl ⟨by rfl, ?_⟩) ?_ ?_
                            rotate_left
                            · intro w'
                              go_simp
                              first | with_reducible rfl | (have hq_ := of_decide_eq_true c15b1; have hl_ := (Kd.R_reads' HO220.out).2.1; rw [if_pos (by omega)] <;> with_reducible rfl) | (have hq_ := of_decide_eq_true c15b1; have hl_ := (Kd.R_reads' HO227.out).2.1; rw [if_pos (by omega)] <;> with_reducible rfl) | (have hq_ := of_decide_eq_true c15b1; have hl_ := (Kd.R_reads' HO234.out).2.1; rw [if_pos (by omega)] <;> with_reducible rfl) | (have hq_ := of_decide_eq_true c15b1; have hl_ := (Kd.R_reads' HO238.out).2.1; rw [if_pos (by omega)] <;> with_reducible rfl) | (have hq_ := of_decide_eq_true c15b1; have hl_ := (Kd.R_reads' HO260.out).2.1; rw [if_pos (by omega)] <;> with_reducible rfl) | (have hq_ := of_decide_eq_true c25b1; have hl_ := (Kd.R_reads' HO220.out).2.1; rw [if_pos (by omega)] <;> with_reducible rfl) | (have hq_ := of_decide_eq_true c25b1; have hl_ := (Kd.R_reads' HO227.out).2.1; rw [if_pos (by omega)] <;> with_reducible rfl) | (have hq_ := of_decide_eq_true c25b1; have hl_ := (Kd.R_reads' HO234.out).2.1; rw [if_pos (by omega)] <;> with_reducible rfl) | (have hq_ := of_decide_eq_true c25b1; have hl_ := (Kd.R_reads' HO238.out).2.1; rw [if_pos (by omega)] <;> with_reducible rfl) | (have hq_ := of_decide_eq_true c25b1; have hl_ := (Kd.R_reads' HO260.out).2.1; rw [if_pos (by omega)] <;> with_reducible rfl)
                            rotate_left
                            · simp only [Act.put, List.setIfInBounds_toArray, List.set_cons_zero, List.set_cons_succ, i64_w, i32_w]
                              rfl
                            refine pure_ (i := 22) (N := some 59) (v := ?_) (a' := ?_) #[true, true, true, true, true, true, true, true, true, true, true, true, true, true, true, true, true, true, true, true, true, true, true, false, false, false, false, false, false, false, false, false, false, false, false, false, false, false, false, false, false, false, false, false, false, false, false, false] rfl rfl (any_of HT_.out (by kernel_rfl)) (fun _ _ _ h => h) (Or.inl ⟨by rfl, ?_⟩) ?_ ?_
                            rotate_left
                            · intro w'
                              go_simp
                              first | with_reducible rfl | (have hq_ := of_decide_eq_true c15b1; have hl_ := (Kd.R_reads' HO220.out).2.1; rw [if_pos (by omega)] <;> with_reducible rfl) | (have hq_ := of_decide_eq_true c15b1; have hl_ := (Kd.R_reads' HO227.out).2.1; rw [if_pos (by omega)] <;> with_reducible rfl) | (have hq_ := of_decide_eq_true c15b1; have hl_ := (Kd.R_reads' HO234.out).2.1; rw [if_pos (by omega)] <;> with_reducible rfl) | (have hq_ := of_decide_eq_true c15b1; have hl_ := (Kd.R_reads' HO238.out).2.1; rw [if_pos (by omega)] <;> with_reducible rfl) | (have hq_ := of_decide_eq_true c15b1; have hl_ := (Kd.R_reads' HO260.out).2.1; rw [if_pos (by omega)] <;> with_reducible rfl) | (have hq_ := of_decide_eq_true c25b1; have hl_ := (Kd.R_reads' HO220.out).2.1; rw [if_pos (by omega)] <;> with_reducible rfl) | (have hq_ := of_decide_eq_true c25b1; have hl_ := (Kd.R_reads' HO227.out).2.1; rw [if_pos (by omega)] <;> with_reducible rfl) | (have hq_ := of_decide_eq_true c25b1; have hl_ := (Kd.R_reads' HO234.out).2.1; rw [if_pos (by omega)] <;> with_reducible rfl) | (have hq_ := of_decide_eq_true c25b1; have hl_ := (Kd.R_reads' HO238.out).2.1; rw [if_pos (by omega)] <;> with_reducible rfl) | (have hq_ := of_decide_eq_true c25b1; have hl_ := (Kd.R_reads' HO260.out).2.1; rw [if_pos (by omega)] <;> with_reducible rfl)
                            rotate_left
                            · simp only [Act.put, List.setIfInBounds_toArray, List.set_cons_zero, List.set_cons_succ, i64_w, i32_w]
                              rfl
                            refine pure_ (i := 23) (N := some 60) (v := ?_) (a' := ?_) #[true, true, true, true, true, true, true, true, true, true, true, true, true, true, true, true, true, true, true, true, true, true, true, true, false, false, false, false, false, false, false, false, false, false, false, false, false, false, false, false, false, false, false, false, false, false, false, false] rfl rfl (any_of HT_.out (by kernel_rfl)) (fun _ _ _ h => h) (Or.inl ⟨by rfl, ?_⟩) ?_ ?_
                            rotate_left
                            · intro w'
                              go_simp
                              first | with_reducible rfl | (have hq_ := of_decide_eq_true c15b1; have hl_ := (Kd.R_reads' HO220.out).2.1; rw [if_pos (by omega)] <;> with_reducible rfl) | (have hq_ := of_decide_eq_true c15b1; have hl_ := (Kd.R_reads' HO227.out).2.1; rw [if_pos (by omega)] <;> with_reducible rfl) | (have hq_ := of_decide_eq_true c15b1; have hl_ := (Kd.R_reads' HO234.out).2.1; rw [if_pos (by omega)] <;> with_reducible rfl) | (have hq_ := of_decide_eq_true c15b1; have hl_ := (Kd.R_reads' HO238.out).2.1; rw [if_pos (by omega)] <;> with_reducible rfl) | (have hq_ := of_decide_eq_true c15b1; have hl_ := (Kd.R_reads' HO260.out).2.1; rw [if_pos (by omega)] <;> with_reducible rfl) | (have hq_ := of_decide_eq_true c25b1; have hl_ := (Kd.R_reads' HO220.out).2.1; rw [if_pos (by omega)] <;> with_reducible rfl) | (have hq_ := of_decide_eq_true c25b1; have hl_ := (Kd.R_reads' HO227.out).2.1; rw [if_pos (by omega)] <;> with_reducible rfl) | (have hq_ := of_decide_eq_true c25b1; have hl_ := (Kd.R_reads' HO234.out).2.1; rw [if_pos (by omega)] <;> with_reducible rfl) | (have hq_ := of_decide_eq_true c25b1; have hl_ := (Kd.R_reads' HO238.out).2.1; rw [if_pos (by omega)] <;> with_reducible rfl) | (have hq_ := of_decide_eq_true c25b1; have hl_ := (Kd.R_reads' HO260.out).2.1; rw [if_pos (by omega)] <;> with_reducible rfl)
                            rotate_left
                            · simp only [Act.put, List.setIfInBounds_toArray, List.set_cons_zero, List.set_cons_succ, i64_w, i32_w]
                              rfl
                            refine pure_ (i := 24) (N := some 61) (v := ?_) (a' := ?_) #[true, true, true, true, true, true, true, true, true, true, true, true, true, true, true, true, true, true, true, true, true, true, true, true, true, false, false, false, false, false, false, false, false, false, false, false, false, false, false, false, false, false, false, false, false, false, false, false] rfl rfl (any_of HT_.out (by kernel_rfl)) (fun _ _ _ h => h) (Or.inl ⟨by rfl, ?_⟩) ?_ ?_
                            rotate_left
                            · intro w'
                              go_simp
                              first | with_reducible rfl | (have hq_ := of_decide_eq_true c15b1; have hl_ := (Kd.R_reads' HO220.out).2.1; rw [if_pos (by omega)] <;> with_reducible rfl) | (have hq_ := of_decide_eq_true c15b1; have hl_ := (Kd.R_reads' HO227.out).2.1; rw [if_pos (by omega)] <;> with_reducible rfl) | (have hq_ := of_decide_eq_true c15b1; have hl_ := (Kd.R_reads' HO234.out).2.1; rw [if_pos (by omega)] <;> with_reducible rfl) | (have hq_ := of_decide_eq_true c15b1; have hl_ := (Kd.R_reads' HO238.out).2.1; rw [if_pos (by omega)] <;> with_reducible rfl) | (have hq_ := of_decide_eq_true c15b1; have hl_ := (Kd.R_reads' HO260.out).2.1; rw [if_pos (by omega)] <;> with_reducible rfl) | (have hq_ := of_decide_eq_true c25b1; have hl_ := (Kd.R_reads' HO220.out).2.1; rw [if_pos (by omega)] <;> with_reducible rfl) | (have hq_ := of_decide_eq_true c25b1; have hl_ := (Kd.R_reads' HO227.out).2.1; rw [if_pos (by omega)] <;> with_reducible rfl) | (have hq_ := of_decide_eq_true c25b1; have hl_ := (Kd.R_reads' HO234.out).2.1; rw [if_pos (by omega)] <;> with_reducible rfl) | (have hq_ := of_decide_eq_true c25b1; have hl_ := (Kd.R_reads' HO238.out).2.1; rw [if_pos (by omega)] <;> with_reducible rfl) | (have hq_ := of_decide_eq_true c25b1; have hl_ := (Kd.R_reads' HO260.out).2.1; rw [if_pos (by omega)] <;> with_reducible rfl)
                            rotate_left
                            · simp only [Act.put, List.setIfInBounds_toArray, List.set_cons_zero, List.set_cons_succ, i64_w, i32_w]
                              rfl
                            refine pure_ (i := 25) (N := some 62) (v := ?_) (a' := ?_) #[true, true, true, true, true, true, true, true, true, true, true, true, true, true, true, true, true, true, true, true, true, true, true, true, true, true, false, false, false, false, false, false, false, false, false, false, false, false, false, false, false, false, false, false, false, false, false, false] rfl rfl (any_of HT_.out (by kernel_rfl)) (fun _ _ _ h => h) (Or.inl ⟨by rfl, ?_⟩) ?_ ?_
                            rotate_left
                            · intro w'
                              go_simp
                              first | with_reducible rfl | (have hq_ := of_decide_eq_true c15b1; have hl_ := (Kd.R_reads' HO220.out).2.1; rw [if_pos (by omega)] <;> with_reducible rfl) | (have hq_ := of_decide_eq_true c15b1; have hl_ := (Kd.R_reads' HO227.out).2.1; rw [if_pos (by omega)] <;> with_reducible rfl) | (have hq_ := of_decide_eq_true c15b1; have hl_ := (Kd.R_reads' HO234.out).2.1; rw [if_pos (by omega)] <;> with_reducible rfl) | (have hq_ := of_decide_eq_true c15b1; have hl_ := (Kd.R_reads' HO238.out).2.1; rw [if_pos (by omega)] <;> with_reducible rfl) | (have hq_ := of_decide_eq_true c15b1; have hl_ := (Kd.R_reads' HO260.out).2.1; rw [if_pos (by omega)] <;> with_reducible rfl) | (have hq_ := of_decide_eq_true c25b1; have hl_ := (Kd.R_reads' HO220.out).2.1; rw [if_pos (by omega)] <;> with_reducible rfl) | (have hq_ := of_decide_eq_true c25b1; have hl_ := (Kd.R_reads' HO227.out).2.1; rw [if_pos (by omega)] <;> with_reducible rfl) | (have hq_ := of_decide_eq_true c25b1; have hl_ := (Kd.R_reads' HO234.out).2.1; rw [if_pos (by omega)] <;> with_reducible rfl) | (have hq_ := of_decide_eq_true c25b1; have hl_ := (Kd.R_reads' HO238.out).2.1; rw [if_pos (by omega)] <;> with_reducible rfl) | (have hq_ := of_decide_eq_true c25b1; have hl_ := (Kd.R_reads' HO260.out).2.1; rw [if_pos (by omega)] <;> with_reducible rfl)
                            rotate_left
                            · simp only [Act.put, List.setIfInBounds_toArray, List.set_cons_zero, List.set_cons_succ, i64_w, i32_w]
                              rfl
                            refine pure_ (i := 26) (N := some 63) (v := ?_) (a' := ?_) #[true, true, true, true, true, true, true, true, true, true, true, true, true, true, true, true, true, true, true, true, true, true, true, true, true, true, true, false, false, false, false, false, false, false, false, false, false, false, false, false, false, false, false, false, false, false, false, false] rfl rfl (any_of HT_.out (by kernel_rfl)) (fun _ _ _ h => h) (Or.inl ⟨by rfl, ?_⟩) ?_ ?_
                            rotate_left
                            · intro w'
                              go_simp
                              first | with_reducible rfl | (have hq_ := of_decide_eq_true c15b1; have hl_ := (Kd.R_reads' HO220.out).2.1; rw [if_pos (by omega)] <;> with_reducible rfl) | (have hq_ := of_decide_eq_true c15b1; have hl_ := (Kd.R_reads' HO227.out).2.1; rw [if_pos (by omega)] <;> with_reducible rfl) | (have hq_ := of_decide_eq_true c15b1; have hl_ := (Kd.R_reads' HO234.out).2.1; rw [if_pos (by omega)] <;> with_reducible rfl) | (have hq_ := of_decide_eq_true c15b1; have hl_ := (Kd.R_reads' HO238.out).2.1; rw [if_pos (by omega)] <;> with_reducible rfl) | (have hq_ := of_decide_eq_true c15b1; have hl_ := (Kd.R_reads' HO260.out).2.1; rw [if_pos (by omega)] <;> with_reducible rfl) | (have hq_ := of_decide_eq_true c25b1; have hl_ := (Kd.R_reads' HO220.out).2.1; rw [if_pos (by omega)] <;> with_reducible rfl) | (have hq_ := of_decide_eq_true c25b1; have hl_ := (Kd.R_reads' HO227.out).2.1; rw [if_pos (by omega)] <;> with_reducible rfl) | (have hq_ := of_decide_eq_true c25b1; have hl_ := (Kd.R_reads' HO234.out).2.1; rw [if_pos (by omega)] <;> with_reducible rfl) | (have hq_ := of_decide_eq_true c25b1; have hl_ := (Kd.R_reads' HO238.out).2.1; rw [if_pos (by omega)] <;> with_reducible rfl) | (have hq_ := of_decide_eq_true c25b1; have hl_ := (Kd.R_reads' HO260.out).2.1; rw [if_pos (by omega)] <;> with_reducible rfl)
                            rotate_left
                            · simp only [Act.put, List.setIfInBounds_toArray, List.set_cons_zero, List.set_cons_succ, i64_w, i32_w]
                              rfl
                            refine pure_ (i := 27) (N := some 64) (v := ?_) (a' := ?_) #[true, true, true, true, true, true, true, true, true, true, true, true, true, true, true, true, true, true, true, true, true, true, true, true, true, true, true, true, false, false, false, false, false, false, false, false, false, false, false, false, false, false, false, false, false, false, false, false] rfl rfl (any_of HT_.out (by kernel_rfl)) (fun _ _ _ h => h) (Or.inl ⟨by rfl, ?_⟩) ?_ ?_
                            rotate_left
                            · intro w'
                              go_simp
                              first | with_reducible rfl | (have hq_ := of_decide_eq_true c15b1; have hl_ := (Kd.R_reads' HO220.out).2.1; rw [if_pos (by omega)] <;> with_reducible rfl) | (have hq_ := of_decide_eq_true c15b1; have hl_ := (Kd.R_reads' HO227.out).2.1; rw [if_pos (by omega)] <;> with_reducible rfl) | (have hq_ := of_decide_eq_true c15b1; have hl_ := (Kd.R_reads' HO234.out).2.1; rw [if_pos (by omega)] <;> with_reducible rfl) | (have hq_ := of_decide_eq_true c15b1; have hl_ := (Kd.R_reads' HO238.out).2.1; rw [if_pos (by omega)] <;> with_reducible rfl) | (have hq_ := of_decide_eq_true c15b1; have hl_ := (Kd.R_reads' HO260.out).2.1; rw [if_pos (by omega)] <;> with_reducible rfl) | (have hq_ := of_decide_eq_true c25b1; have hl_ := (Kd.R_reads' HO220.out).2.1; rw [if_pos (by omega)] <;> with_reducible rfl) | (have hq_ := of_decide_eq_true c25b1; have hl_ := (Kd.R_reads' HO227.out).2.1; rw [if_pos (by omega)] <;> with_reducible rfl) | (have hq_ := of_decide_eq_true c25b1; have hl_ := (Kd.R_reads' HO234.out).2.1; rw [if_pos (by omega)] <;> with_reducible rfl) | (have hq_ := of_decide_eq_true c25b1; have hl_ := (Kd.R_reads' HO238.out).2.1; rw [if_pos (by omega)] <;> with_reducible rfl) | (have hq_ := of_decide_eq_true c25b1; have hl_ := (Kd.R_reads' HO260.out).2.1; rw [if_pos (by omega)] <;> with_reducible rfl)
                            rotate_left
                            · simp only [Act.put, List.setIfInBounds_toArray, List.set_cons_zero, List.set_cons_succ, i64_w, i32_w]
                              rfl
                            refine pure_ (i := 28) (N := some 65) (v := ?_) (a' := ?_) #[true, true, true, true, true, true, true, true, true, true, true, true, true, true, true, true, true, true, true, true, true, true, true, true, true, true, true, true, true, false, false, false, false, false, false, false, false, false, false, false, false, false, false, false, false, false, false, false] rfl rfl (any_of HT_.out (by kernel_rfl)) (fun _ _ _ h => h) (Or.inl ⟨by rfl, ?_⟩) ?_ ?_
                            rotate_left
                            · intro w'
                              go_simp
                              first | with_reducible rfl | (have hq_ := of_decide_eq_true c15b1; have hl_ := (Kd.R_reads' HO220.out).2.1; rw [if_pos (by omega)] <;> with_reducible rfl) | (have hq_ := of_decide_eq_true c15b1; have hl_ := (Kd.R_reads' HO227.out).2.1; rw [if_pos (by omega)] <;> with_reducible rfl) | (have hq_ := of_decide_eq_true c15b1; have hl_ := (Kd.R_reads' HO234.out).2.1; rw [if_pos (by omega)] <;> with_reducible rfl) | (have hq_ := of_decide_eq_true c15b1; have hl_ := (Kd.R_reads' HO238.out).2.1; rw [if_pos (by omega)] <;> with_reducible rfl) | (have hq_ := of_decide_eq_true c15b1; have hl_ := (Kd.R_reads' HO260.out).2.1; rw [if_pos (by omega)] <;> with_reducible rfl) | (have hq_ := of_decide_eq_true c25b1; have hl_ := (Kd.R_reads' HO220.out).2.1; rw [if_pos (by omega)] <;> with_reducible rfl) | (have hq_ := of_decide_eq_true c25b1; have hl_ := (Kd.R_reads' HO227.out).2.1; rw [if_pos (by omega)] <;> with_reducible rfl) | (have hq_ := of_decide_eq_true c25b1; have hl_ := (Kd.R_reads' HO234.out).2.1; rw [if_pos (by omega)] <;> with_reducible rfl) | (have hq_ := of_decide_eq_true c25b1; have hl_ := (Kd.R_reads' HO238.out).2.1; rw [if_pos (by omega)] <;> with_reducible rfl) | (have hq_ := of_decide_eq_true c25b1; have hl_ := (Kd.R_reads' HO260.out).2.1; rw [if_pos (by omega)] <;> with_reducible rfl)
                            rotate_left
                            · simp only [Act.put, List.setIfInBounds_toArray, List.set_cons_zero, List.set_cons_succ, i64_w, i32_w]
                              rfl
                            refine pure_ (i := 29) (N := some 66) (v := ?_) (a' := ?_) #[true, true, true, true, true, true, true, true, true, true, true, true, true, true, true, true, true, true, true, true, true, true, true, true, true, true, true, true, true, true, false, false, false, false, false, false, false, false, false, false, false, false, false, false, false, false, false, false] rfl rfl (any_of HT_.out (by kernel_rfl)) (fun _ _ _ h => h) (Or.inl ⟨by rfl, ?_⟩) ?_ ?_
                            rotate_left
                            · intro w'
                              go_simp
                              first | with_reducible rfl | (have hq_ := of_decide_eq_true c15b1; have hl_ := (Kd.R_reads' HO220.out).2.1; rw [if_pos (by omega)] <;> with_reducible rfl) | (have hq_ := of_decide_eq_true c15b1; have hl_ := (Kd.R_reads' HO227.out).2.1; rw [if_pos (by omega)] <;> with_reducible rfl) | (have hq_ := of_decide_eq_true c15b1; have hl_ := (Kd.R_reads' HO234.out).2.1; rw [if_pos (by omega)] <;> with_reducible rfl) | (have hq_ := of_decide_eq_true c15b1; have hl_ := (Kd.R_reads' HO238.out).2.1; rw [if_pos (by omega)] <;> with_reducible rfl) | (have hq_ := of_decide_eq_true c15b1; have hl_ := (Kd.R_reads' HO260.out).2.1; rw [if_pos (by omega)] <;> with_reducible rfl) | (have hq_ := of_decide_eq_true c25b1; have hl_ := (Kd.R_reads' HO220.out).2.1; rw [if_pos (by omega)] <;> with_reducible rfl) | (have hq_ := of_decide_eq_true c25b1; have hl_ := (Kd.R_reads' HO227.out).2.1; rw [if_pos (by omega)] <;> with_reducible rfl) | (have hq_ := of_decide_eq_true c25b1; have hl_ := (Kd.R_reads' HO234.out).2.1; rw [if_pos (by omega)] <;> with_reducible rfl) | (have hq_ := of_decide_eq_true c25b1; have hl_ := (Kd.R_reads' HO238.out).2.1; rw [if_pos (by omega)] <;> with_reducible rfl) | (have hq_ := of_decide_eq_true c25b1; have hl_ := (Kd.R_reads' HO260.out).2.1; rw [if_pos (by omega)] <;> with_reducible rfl)
                            rotate_left
                            · simp only [Act.put, List.setIfInBounds_toArray, List.set_cons_zero, List.set_cons_succ, i64_w, i32_w]
                              rfl
                            refine pure_ (i := 30) (N := some 67) (v := ?_) (a' := ?_) #[true, true, true, true, true, true, true, true, true, true, true, true, true, true, true, true, true, true, true, true, true, true, true, true, true, true, true, true, true, true, true, false, false, false, false, false, false, false, false, false, false, false, false, false, false, false, false, false] rfl rfl (any_of HT_.out (by kernel_rfl)) (fun _ _ _ h => h) (Or.inl ⟨by rfl, ?_⟩) ?_ ?_
                            rotate_left
                            · intro w'
                              go_simp
                              first | with_reducible rfl | (have hq_ := of_decide_eq_true c15b1; have hl_ := (Kd.R_reads' HO220.out).2.1; rw [if_pos (by omega)] <;> with_reducible rfl) | (have hq_ := of_decide_eq_true c15b1; have hl_ := (Kd.R_reads' HO227.out).2.1; rw [if_pos (by omega)] <;> with_reducible rfl) | (have hq_ := of_decide_eq_true c15b1; have hl_ := (Kd.R_reads' HO234.out).2.1; rw [if_pos (by omega)] <;> with_reducible rfl) | (have hq_ := of_decide_eq_true c15b1; have hl_ := (Kd.R_reads' HO238.out).2.1; rw [if_pos (by omega)] <;> with_reducible rfl) | (have hq_ := of_decide_eq_true c15b1; have hl_ := (Kd.R_reads' HO260.out).2.1; rw [if_pos (by omega)] <;> with_reducible rfl) | (have hq_ := of_decide_eq_true c25b1; have hl_ := (Kd.R_reads' HO220.out).2.1; rw [if_pos (by omega)] <;> with_reducible rfl) | (have hq_ := of_decide_eq_true c25b1; have hl_ := (Kd.R_reads' HO227.out).2.1; rw [if_pos (by omega)] <;> with_reducible rfl) | (have hq_ := of_decide_eq_true c25b1; have hl_ := (Kd.R_reads' HO234.out).2.1; rw [if_pos (by omega)] <;> with_reducible rfl) | (have hq_ := of_decide_eq_true c25b1; have hl_ := (Kd.R_reads' HO238.out).2.1; rw [if_pos (by omega)] <;> with_reducible rfl) | (have hq_ := of_decide_eq_true c25b1; have hl_ := (Kd.R_reads' HO260.out).2.1; rw [if_pos (by omega)] <;> with_reducible rfl)
                            rotate_left
                            · simp only [Act.put, List.setIfInBounds_toArray, List.set_cons_zero, List.set_cons_succ, i64_w, i32_w]
                              rfl
                            refine pure_ (i := 32) (N := some 69) (v := ?_) (a' := ?_) #[true, true, true, true, true, true, true, true, true, true, true, true, true, true, true, true, true, true, true, true, true, true, true, true, true, true, true, true, true, true, true, false, true, false, false, false, false, false, false, false, false, false, false, false, false, false, false, false] rfl rfl (any_of HT_.out (by kernel_rfl)) (fun _ _ _ h => h) (Or.inl ⟨by rfl, ?_⟩) ?_ ?_
                            rotate_left
                            · intro w'
                              go_simp
                              first | with_reducible rfl | (have hq_ := of_decide_eq_true c15b1; have hl_ := (Kd.R_reads' HO220.out).2.1; rw [if_pos (by omega)] <;> with_reducible rfl) | (have hq_ := of_decide_eq_true c15b1; have hl_ := (Kd.R_reads' HO227.out).2.1; rw [if_pos (by omega)] <;> with_reducible rfl) | (have hq_ := of_decide_eq_true c15b1; have hl_ := (Kd.R_reads' HO234.out).2.1; rw [if_pos (by omega)] <;> with_reducible rfl) | (have hq_ := of_decide_eq_true c15b1; have hl_ := (Kd.R_reads' HO238.out).2.1; rw [if_pos (by omega)] <;> with_reducible rfl) | (have hq_ := of_decide_eq_true c15b1; have hl_ := (Kd.R_reads' HO260.out).2.1; rw [if_pos (by omega)] <;> with_reducible rfl) | (have hq_ := of_decide_eq_true c25b1; have hl_ := (Kd.R_reads' HO220.out).2.1; rw [if_pos (by omega)] <;> with_reducible rfl) | (have hq_ := of_decide_eq_true c25b1; have hl_ := (Kd.R_reads' HO227.out).2.1; rw [if_pos (by omega)] <;> with_reducible rfl) | (have hq_ := of_decide_eq_true c25b1; have hl_ := (Kd.R_reads' HO234.out).2.1; rw [if_pos (by omega)] <;> with_reducible rfl) | (have hq_ := of_decide_eq_true c25b1; have hl_ := (Kd.R_reads' HO238.out).2.1; rw [if_pos (by omega)] <;> with_reducible rfl) | (have hq_ := of_decide_eq_true c25b1; have hl_ := (Kd.R_reads' HO260.out).2.1; rw [if_pos (by omega)] <;> with_reducible rfl)
                            rotate_left
                            · simp only [Act.put, List.setIfInBounds_toArray, List.set_cons_zero, List.set_cons_succ, i64_w, i32_w]
                              rfl
                            refine pure_ (i := 33) (N := some 70) (v := ?_) (a' := ?_) #[true, true, true, true, true, true, true, true, true, true, true, true, true, true, true, true, true, true, true, true, true, true, true, true, true, true, true, true, true, true, true, false, true, true, false, false, false, false, false, false, false, false, false, false, false, false, false, false] rfl rfl (any_of HT_.out (by kernel_rfl)) (fun _ _ _ h => h) (Or.inl ⟨by rfl, ?_⟩) ?_ ?_
                            rotate_left
                            · intro w'
                              go_simp
                              first | with_reducible rfl | (have hq_ := of_decide_eq_true c15b1; have hl_ := (Kd.R_reads' HO220.out).2.1; rw [if_pos (by omega)] <;> with_reducible rfl) | (have hq_ := of_decide_eq_true c15b1; have hl_ := (Kd.R_reads' HO227.out).2.1; rw [if_pos (by omega)] <;> with_reducible rfl) | (have hq_ := of_decide_eq_true c15b1; have hl_ := (Kd.R_reads' HO234.out).2.1; rw [if_pos (by omega)] <;> with_reducible rfl) | (have hq_ := of_decide_eq_true c15b1; have hl_ := (Kd.R_reads' HO238.out).2.1; rw [if_pos (by omega)] <;> with_reducible rfl) | (have hq_ := of_decide_eq_true c15b1; have hl_ := (Kd.R_reads' HO260.out).2.1; rw [if_pos (by omega)] <;> with_reducible rfl) | (have hq_ := of_decide_eq_true c25b1; have hl_ := (Kd.R_reads' HO220.out).2.1; rw [if_pos (by omega)] <;> with_reducible rfl) | (have hq_ := of_decide_eq_true c25b1; have hl_ := (Kd.R_reads' HO227.out).2.1; rw [if_pos (by omega)] <;> with_reducible rfl) | (have hq_ := of_decide_eq_true c25b1; have hl_ := (Kd.R_reads' HO234.out).2.1; rw [if_pos (by omega)] <;> with_reducible rfl) | (have hq_ := of_decide_eq_true c25b1; have hl_ := (Kd.R_reads' HO238.out).2.1; rw [if_pos (by omega)] <;> with_reducible rfl) | (have hq_ := of_decide_eq_true c25b1; have hl_ := (Kd.R_reads' HO260.out).2.1; rw [if_pos (by omega)] <;> with_reducible rfl)
                            rotate_left
                            · simp only [Act.put, List.setIfInBounds_toArray, List.set_cons_zero, List.set_cons_succ, i64_w, i32_w]
                              rfl
                            refine take_ (i := 31) (N := some 68) (v := ?_) (a' := ?_) #[true, true, true, true, true, true, true, true, true, true, true, true, true, true, true, true, true, true, true, true, true, true, true, true, true, true, true, true, true, true, true, true, true, true, false, false, false, false, false, false, false, false, false, false, false, false, false, false] rfl rfl (take_ofW HT_.out HW_.out (by kernel_rfl)) (fun _ _ _ h => h) (Or.inl ⟨by rfl, ?_⟩) hHeld ?_ ?_
                            rotate_left
                            · rintro w' ⟨s0, s1, s2, s3, s4, s5, s6, s7, s8, s9, s10, s11⟩
                              go_simp
                              first | with_reducible rfl | (have hq_ := of_decide_eq_true c15b1; have hl_ := (Kd.R_reads' HO220.out).2.1; rw [if_pos (by omega)] <;> with_reducible rfl) | (have hq_ := of_decide_eq_true c15b1; have hl_ := (Kd.R_reads' HO227.out).2.1; rw [if_pos (by omega)] <;> with_reducible rfl) | (have hq_ := of_decide_eq_true c15b1; have hl_ := (Kd.R_reads' HO234.out).2.1; rw [if_pos (by omega)] <;> with_reducible rfl) | (have hq_ := of_decide_eq_true c15b1; have hl_ := (Kd.R_reads' HO238.out).2.1; rw [if_pos (by omega)] <;> with_reducible rfl) | (have hq_ := of_decide_eq_true c15b1; have hl_ := (Kd.R_reads' HO260.out).2.1; rw [if_pos (by omega)] <;> with_reducible rfl) | (have hq_ := of_decide_eq_true c25b1; have hl_ := (Kd.R_reads' HO220.out).2.1; rw [if_pos (by omega)] <;> with_reducible rfl) | (have hq_ := of_decide_eq_true c25b1; have hl_ := (Kd.R_reads' HO227.out).2.1; rw [if_pos (by omega)] <;> with_reducible rfl) | (have hq_ := of_decide_eq_true c25b1; have hl_ := (Kd.R_reads' HO234.out).2.1; rw [if_pos (by omega)] <;> with_reducible rfl) | (have hq_ := of_decide_eq_true c25b1; have hl_ := (Kd.R_reads' HO238.out).2.1; rw [if_pos (by omega)] <;> with_reducible rfl) | (have hq_ := of_decide_eq_true c25b1; have hl_ := (Kd.R_reads' HO260.out).2.1; rw [if_pos (by omega)] <;> with_reducible rfl)
                            rotate_left
                            · simp only [Act.put, List.setIfInBounds_toArray, List.set_cons_zero, List.set_cons_succ, i64_w, i32_w]
                              rfl
                            refine take_ (i := 34) (N := some 71) (v := ?_) (a' := ?_) #[true, true, true, true, true, true, true, true, true, true, true, true, true, true, true, true, true, true, true, true, true, true, true, true, true, true, true, true, true, true, true, true, true, true, true, false, false, false, false, false, false, false, false, false, false, false, false, false] rfl rfl (take_ofW HT_.out HW_.out (by kernel_rfl)) (fun _ _ _ h => h) (Or.inl ⟨by rfl, ?_⟩) hHeld ?_ ?_
                            rotate_left
                            · rintro w' ⟨s0, s1, s2, s3, s4, s5, s6, s7, s8, s9, s10, s11⟩
                              go_simp
                              first | with_reducible rfl | (have hq_ := of_decide_eq_true c15b1; have hl_ := (Kd.R_reads' HO220.out).2.1; rw [if_pos (by omega)] <;> with_reducible rfl) | (have hq_ := of_decide_eq_true c15b1; have hl_ := (Kd.R_reads' HO227.out).2.1; rw [if_pos (by omega)] <;> with_reducible rfl) | (have hq_ := of_decide_eq_true c15b1; have hl_ := (Kd.R_reads' HO234.out).2.1; rw [if_pos (by omega)] <;> with_reducible rfl) | (have hq_ := of_decide_eq_true c15b1; have hl_ := (Kd.R_reads' HO238.out).2.1; rw [if_pos (by omega)] <;> with_reducible rfl) | (have hq_ := of_decide_eq_true c15b1; have hl_ := (Kd.R_reads' HO260.out).2.1; rw [if_pos (by omega)] <;> with_reducible rfl) | (have hq_ := of_decide_eq_true c25b1; have hl_ := (Kd.R_reads' HO220.out).2.1; rw [if_pos (by omega)] <;> with_reducible rfl) | (have hq_ := of_decide_eq_true c25b1; have hl_ := (Kd.R_reads' HO227.out).2.1; rw [if_pos (by omega)] <;> with_reducible rfl) | (have hq_ := of_decide_eq_true c25b1; have hl_ := (Kd.R_reads' HO234.out).2.1; rw [if_pos (by omega)] <;> with_reducible rfl) | (have hq_ := of_decide_eq_true c25b1; have hl_ := (Kd.R_reads' HO238.out).2.1; rw [if_pos (by omega)] <;> with_reducible rfl) | (have hq_ := of_decide_eq_true c25b1; have hl_ := (Kd.R_reads' HO260.out).2.1; rw [if_pos (by omega)] <;> with_reducible rfl)
                            rotate_left
                            · simp only [Act.put, List.setIfInBounds_toArray, List.set_cons_zero, List.set_cons_succ, i64_w, i32_w]
                              rfl
                            refine one_ (i := 35) (N := some 72) #[true, true, true, true, true, true, true, true, true, true, true, true, true, true, true, true, true, true, true, true, true, true, true, true, true, true, true, true, true, true, true, true, true, true, true, true, false, false, false, false, false, false, false, false, false, false, false, false] rfl rfl (one_of HT_.out (by kernel_rfl)) (by decide) (fun K hK => ?_)
                            refine goes_ Try.func18 (by kernel_rfl) rfl #[.agg #[.int .i64 ((rd_T34 y218 0).f0.f0), .int .i64 ((rd_T34 y218 0).f0.f1), .int .i64 ((rd_T34 y218 0).f1), .int .i64 ((rd_T34 y218 0).f2), .int .i64 ((rd_T34 y218 0).f3), .int .i64 ((rd_T34 y218 0).f4)], .agg #[.int .i64 ((rd_T34 y218 1).f0.f0), .int .i64 ((rd_T34 y218 1).f0.f1), .int .i64 ((rd_T34 y218 1).f1), .int .i64 ((rd_T34 y218 1).f2), .int .i64 ((rd_T34 y218 1).f3), .int .i64 ((rd_T34 y218 1).f4)]] (by rfl) rfl rfl (by (try simp only [List.map_toArray, List.map_cons, List.map_nil]); first | done | rfl | (simp only [List.length_drop, List.length_take]; rfl) | (have qy239 : y239.length = 2 := (by (rw [Ny239.out, List.length_take]; have := of_decide_eq_true c15b1; omega));  simp only [qy239] <;> rfl)) ?_
                            with_reducible refine (rank_Compare.calls ((rd_T34 y218 0).f0.f0) ((rd_T34 y218 0).f0.f1) ((rd_T34 y218 0).f1) ((rd_T34 y218 0).f2) ((rd_T34 y218 0).f3) ((rd_T34 y218 0).f4) ((rd_T34 y218 1).f0.f0) ((rd_T34 y218 1).f0.f1) ((rd_T34 y218 1).f1) ((rd_T34 y218 1).f2) ((rd_T34 y218 1).f3) ((rd_T34 y218 1).f4) t249 _ A23.out).mono ?_
                            rintro e w50 ⟨rfl, hb⟩
                            have HS0_ := (hb.cell (World.block_lt_of_cell? _ _ (hHeld.1))).trans (hHeld.1)
                            have HS1_ := (hb.cell (World.block_lt_of_cell? _ _ (hHeld.2.1))).trans (hHeld.2.1)
                            have HS2_ := (hb.cell (World.block_lt_of_cell? _ _ (hHeld.2.2.1))).trans (hHeld.2.2.1)
                            have HS3_ := (hb.cell (World.block_lt_of_cell? _ _ (hHeld.2.2.2.1))).trans (hHeld.2.2.2.1)
                            have HS4_ := (hb.cell (World.block_lt_of_cell? _ _ (hHeld.2.2.2.2.1))).trans (hHeld.2.2.2.2.1)
                            have HS5_ := (hb.cell (World.block_lt_of_cell? _ _ (hHeld.2.2.2.2.2.1))).trans (hHeld.2.2.2.2.2.1)
                            have HS6_ := (hb.cell (World.block_lt_of_cell? _ _ (hHeld.2.2.2.2.2.2.1))).trans (hHeld.2.2.2.2.2.2.1)
                            have HS7_ := (hb.cell (World.block_lt_of_cell? _ _ (hHeld.2.2.2.2.2.2.2.1))).trans (hHeld.2.2.2.2.2.2.2.1)
                            have HS8_ := (hb.cell (World.block_lt_of_cell? _ _ (hHeld.2.2.2.2.2.2.2.2.1))).trans (hHeld.2.2.2.2.2.2.2.2.1)
                            have HS9_ := (hb.cell (World.block_lt_of_cell? _ _ (hHeld.2.2.2.2.2.2.2.2.2.1))).trans (hHeld.2.2.2.2.2.2.2.2.2.1)
                            have HS10_ := (hb.cell (World.block_lt_of_cell? _ _ (hHeld.2.2.2.2.2.2.2.2.2.2.1))).trans (hHeld.2.2.2.2.2.2.2.2.2.2.1)
                            have HS11_ := (hb.cell (World.block_lt_of_cell? _ _ (hHeld.2.2.2.2.2.2.2.2.2.2.2))).trans (hHeld.2.2.2.2.2.2.2.2.2.2.2)
                            refine ⟨_, rfl, ?_⟩
                            have n0_ := Aside0.mk (Kd.R_below (by (with_reducible repeat (first | apply Kd.R_alloc | apply Kd.R_drewN | apply Kd.R_drew)); exact HO220.out) hb)
                            have n1_ := Aside0.mk (Kd.R_below (by (with_reducible repeat (first | apply Kd.R_alloc | apply Kd.R_drewN | apply Kd.R_drew)); exact HO227.out) hb)
                            have n2_ := Aside0.mk (Kd.R_below (by (with_reducible repeat (first | apply Kd.R_alloc | apply Kd.R_drewN | apply Kd.R_drew)); exact HO234.out) hb)
                            have n3_ := Aside0.mk (Kd.R_below (by (with_reducible repeat (first | apply Kd.R_alloc | apply Kd.R_drewN | apply Kd.R_drew)); exact HO238.out) hb)
                            have n4_ := Aside0.mk (Kd.R_below (by (with_reducible repeat (first | apply Kd.R_alloc | apply Kd.R_drewN | apply Kd.R_drew)); exact HO246.out) hb)
                            have n5_ := Aside0.mk (Kd.C_below (by repeat (first | (with_reducible exact HR242.out) | (with_reducible refine Kd.C_alloc ?_ _) | (with_reducible refine Kd.C_drewN ?_ _) | (with_reducible refine Kd.C_drew ?_) | exact HR242.out)) hb)
                            have n6_ := Aside0.mk (below_step (by repeat (first | (with_reducible first | exact HB.out | apply below_alloc | apply pw_below_drewN | apply below_drew1) | exact HB.out)) hb)
                            clear HO220
                            clear HO227
                            clear HO234
                            clear HO238
                            clear HO246
                            clear HR242
                            clear HB
                            have HO220 := n0_
                            have HO227 := n1_
                            have HO234 := n2_
                            have HO238 := n3_
                            have HO246 := n4_
                            have HR242 := n5_
                            have HB := n6_
                            clear n0_ n1_ n2_ n3_ n4_ n5_ n6_
                            (try clear hb)
                            (try clear hb2)
                            (try clear hk)
                            (try clear hi)
                            have q51 : (2 : Int) ≤ ((y218.length : Int) : Int) := of_decide_eq_true (by first | (with_reducible assumption) | assumption)
                            obtain ⟨i051, hi051, _, hsz51, _⟩ := info_parts info34
                            have hroom51 : y218.length ≤ co36 := (Kd.R_reads' HO220.out).2.1
                            have hC51 : Kd.C k34 _ (some ad221) y218.length y218 := (Kd.R_reads' HO220.out).2.2
                            have hcut51 := cut_to (P := Try.prog) 22 34 .i64 Try.underlying22 hi051 (some ad221) y218.length co36 2 (by omega) q51 hroom51
                            have hr51 := Kd.C_take (m := 2) hC51 (by omega)
                            have hy51 : y250.length = (2 : Int).toNat := (by rw [Ny250.out, List.length_take]; omega)
                            rw [← Ny250.out] at hr51
                            rw [← hy51] at hcut51
                            have HR253 := Aside0.mk hr51
                            have HC253 := Aside0.mk (show y250.length ≤ co36 from by omega)
                            clear hr51 hC51 hroom51 hi051 hsz51
                            have KY51 := Aside0.mk hy51
                            clear hy51
                            have KL51 := Aside0.mk (show 2 ≤ y218.length from by omega)
                            replace q51 := eq_true q51
                            have q52 : (2 : Int) ≤ ((y218.length : Int) : Int) := of_decide_eq_true (by first | (with_reducible assumption) | assumption)
                            obtain ⟨i052, hi052, _, hsz52, _⟩ := info_parts info34
                            have hroom52 : y218.length ≤ co36 := (Kd.R_reads' HO220.out).2.1
                            have hC52 : Kd.C k34 _ (some ad221) y218.length y218 := (Kd.R_reads' HO220.out).2.2
                            have hcut52 := cut_from (P := Try.prog) 22 34 .i64 Try.underlying22 hi052 6 hsz52 (some ad221) y218.length co36 2 (by omega) q52
                            have hr52 := Kd.C_drop (m := (2 : Int).toNat) (c := co36) hC52 (by omega) hroom52
                            obtain ⟨A52, hA52⟩ : ∃ A1, A1 = (if co36 = (2 : Int).toNat then (some ad221) else ((some ad221) : Option Addr).map (·.add ((2 : Int).toNat * 6))) := ⟨_, rfl⟩
                            obtain ⟨c52, hc52⟩ : ∃ c1, c1 = co36 - (2 : Int).toNat := ⟨_, rfl⟩
                            have hy52 : y254.length = y218.length - (2 : Int).toNat := (by rw [Ny254.out, List.length_drop] <;> omega)
                            rw [show (y218).drop (2 : Int).toNat = y254 from Ny254.out.symm] at hr52
                            replace hr52 : Kd.C k34 _ A52 y254.length y254 := (by rw [hA52]; exact hr52)
                            rw [← hy52, ← hA52, ← hc52] at hcut52
                            have HR257 := Aside0.mk hr52
                            have HC257 := Aside0.mk (show y254.length ≤ c52 from by rw [hy52, hc52]; exact Nat.sub_le_sub_right hroom52 _)
                            clear hr52 hC52 hroom52 hi052 hsz52 hc52
                            have KY52 := Aside0.mk hy52
                            have KA52 := Aside0.mk hA52
                            clear hy52 hA52
                            have KL52 := Aside0.mk (show 2 ≤ y218.length from by omega)
                            replace q52 := eq_true q52
                            refine hK.out _ _ ⟨HS0_, HS1_, HS2_, HS3_, HS4_, HS5_, HS6_, HS7_, HS8_, HS9_, HS10_, HS11_⟩ (fun hHeld => ?_)
                            clear hK K
                            refine norm_ (a' := ?_) ?_ ?_
                            rotate_left
                            · show Act.put _ (some 72) _ = _
                              simp only [Act.put, List.setIfInBounds_toArray, List.set_cons_zero, List.set_cons_succ, i64_w, i32_w]
                              rfl
                            refine pure_ (i := 36) (N := some 73) (v := ?_) (a' := ?_) #[true, true, true, true, true, true, true, true, true, true, true, true, true, true, true, true, true, true, true, true, true, true, true, true, true, true, true, true, true, true, true, true, true, true, true, true, true, false, false, false, false, false, false, false, false, false, false, false] rfl rfl (any_of HT_.out (by kernel_rfl)) (fun _ _ _ h => h) (Or.inl ⟨by rfl, ?_⟩) ?_ ?_
                            rotate_left
                            · intro w'
                              go_simp
                              first | with_reducible rfl | (have hq_ := of_decide_eq_true c15b1; have hl_ := (Kd.R_reads' HO220.out).2.1; rw [if_pos (by omega)] <;> with_reducible rfl) | (have hq_ := of_decide_eq_true c15b1; have hl_ := (Kd.R_reads' HO227.out).2.1; rw [if_pos (by omega)] <;> with_reducible rfl) | (have hq_ := of_decide_eq_true c15b1; have hl_ := (Kd.R_reads' HO234.out).2.1; rw [if_pos (by omega)] <;> with_reducible rfl) | (have hq_ := of_decide_eq_true c15b1; have hl_ := (Kd.R_reads' HO238.out).2.1; rw [if_pos (by omega)] <;> with_reducible rfl) | (have hq_ := of_decide_eq_true c15b1; have hl_ := (Kd.R_reads' HO260.out).2.1; rw [if_pos (by omega)] <;> with_reducible rfl) | (have hq_ := of_decide_eq_true c25b1; have hl_ := (Kd.R_reads' HO220.out).2.1; rw [if_pos (by omega)] <;> with_reducible rfl) | (have hq_ := of_decide_eq_true c25b1; have hl_ := (Kd.R_reads' HO227.out).2.1; rw [if_pos (by omega)] <;> with_reducible rfl) | (have hq_ := of_decide_eq_true c25b1; have hl_ := (Kd.R_reads' HO234.out).2.1; rw [if_pos (by omega)] <;> with_reducible rfl) | (have hq_ := of_decide_eq_true c25b1; have hl_ := (Kd.R_reads' HO238.out).2.1; rw [if_pos (by omega)] <;> with_reducible rfl) | (have hq_ := of_decide_eq_true c25b1; have hl_ := (Kd.R_reads' HO260.out).2.1; rw [if_pos (by omega)] <;> with_reducible rfl)
                            rotate_left
                            · simp only [Act.put, List.setIfInBounds_toArray, List.set_cons_zero, List.set_cons_succ, i64_w, i32_w]
                              rfl
                            refine pure_ (i := 37) (N := some 74) (v := ?_) (a' := ?_) #[true, true, true, true, true, true, true, true, true, true, true, true, true, true, true, true, true, true, true, true, true, true, true, true, true, true, true, true, true, true, true, true, true, true, true, true, true, true, false, false, false, false, false, false, false, false, false, false] rfl rfl (any_of HT_.out (by kernel_rfl)) (fun _ _ _ h => h) (Or.inl ⟨by rfl, ?_⟩) ?_ ?_
                            rotate_left
                            · intro w'
                              go_simp
                              first | with_reducible rfl | (have hq_ := of_decide_eq_true c15b1; have hl_ := (Kd.R_reads' HO220.out).2.1; rw [if_pos (by omega)] <;> with_reducible rfl) | (have hq_ := of_decide_eq_true c15b1; have hl_ := (Kd.R_reads' HO227.out).2.1; rw [if_pos (by omega)] <;> with_reducible rfl) | (have hq_ := of_decide_eq_true c15b1; have hl_ := (Kd.R_reads' HO234.out).2.1; rw [if_pos (by omega)] <;> with_reducible rfl) | (have hq_ := of_decide_eq_true c15b1; have hl_ := (Kd.R_reads' HO238.out).2.1; rw [if_pos (by omega)] <;> with_reducible rfl) | (have hq_ := of_decide_eq_true c15b1; have hl_ := (Kd.R_reads' HO260.out).2.1; rw [if_pos (by omega)] <;> with_reducible rfl) | (have hq_ := of_decide_eq_true c25b1; have hl_ := (Kd.R_reads' HO220.out).2.1; rw [if_pos (by omega)] <;> with_reducible rfl) | (have hq_ := of_decide_eq_true c25b1; have hl_ := (Kd.R_reads' HO227.out).2.1; rw [if_pos (by omega)] <;> with_reducible rfl) | (have hq_ := of_decide_eq_true c25b1; have hl_ := (Kd.R_reads' HO234.out).2.1; rw [if_pos (by omega)] <;> with_reducible rfl) | (have hq_ := of_decide_eq_true c25b1; have hl_ := (Kd.R_reads' HO238.out).2.1; rw [if_pos (by omega)] <;> with_reducible rfl) | (have hq_ := of_decide_eq_true c25b1; have hl_ := (Kd.R_reads' HO260.out).2.1; rw [if_pos (by omega)] <;> with_reducible rfl)
                            rotate_left
                            · simp only [Act.put, List.setIfInBounds_toArray, List.set_cons_zero, List.set_cons_succ, i64_w, i32_w]
                              rfl
                            refine pure_ (i := 38) (N := some 75) (v := ?_) (a' := ?_) #[true, true, true, true, true, true, true, true, true, true, true, true, true, true, true, true, true, true, true, true, true, true, true, true, true, true, true, true, true, true, true, true, true, true, true, true, true, true, true, false, false, false, false, false, false, false, false, false] rfl rfl (any_of HT_.out (by kernel_rfl)) (fun _ _ _ h => h) (Or.inl ⟨by rfl, ?_⟩) ?_ ?_
                            rotate_left
                            · intro w'
                              go_simp
                              first | with_reducible rfl | (have hq_ := of_decide_eq_true c15b1; have hl_ := (Kd.R_reads' HO220.out).2.1; rw [if_pos (by omega)] <;> with_reducible rfl) | (have hq_ := of_decide_eq_true c15b1; have hl_ := (Kd.R_reads' HO227.out).2.1; rw [if_pos (by omega)] <;> with_reducible rfl) | (have hq_ := of_decide_eq_true c15b1; have hl_ := (Kd.R_reads' HO234.out).2.1; rw [if_pos (by omega)] <;> with_reducible rfl) | (have hq_ := of_decide_eq_true c15b1; have hl_ := (Kd.R_reads' HO238.out).2.1; rw [if_pos (by omega)] <;> with_reducible rfl) | (have hq_ := of_decide_eq_true c15b1; have hl_ := (Kd.R_reads' HO260.out).2.1; rw [if_pos (by omega)] <;> with_reducible rfl) | (have hq_ := of_decide_eq_true c25b1; have hl_ := (Kd.R_reads' HO220.out).2.1; rw [if_pos (by omega)] <;> with_reducible rfl) | (have hq_ := of_decide_eq_true c25b1; have hl_ := (Kd.R_reads' HO227.out).2.1; rw [if_pos (by omega)] <;> with_reducible rfl) | (have hq_ := of_decide_eq_true c25b1; have hl_ := (Kd.R_reads' HO234.out).2.1; rw [if_pos (by omega)] <;> with_reducible rfl) | (have hq_ := of_decide_eq_true c25b1; have hl_ := (Kd.R_reads' HO238.out).2.1; rw [if_pos (by omega)] <;> with_reducible rfl) | (have hq_ := of_decide_eq_true c25b1; have hl_ := (Kd.R_reads' HO260.out).2.1; rw [if_pos (by omega)] <;> with_reducible rfl)
                            rotate_left
                            · simp only [Act.put, List.setIfInBounds_toArray, List.set_cons_zero, List.set_cons_succ, i64_w, i32_w]
                              rfl
                            refine pure_ (i := 39) (N := some 76) (v := ?_) (a' := ?_) #[true, true, true, true, true, true, true, true, true, true, true, true, true, true, true, true, true, true, true, true, true, true, true, true, true, true, true, true, true, true, true, true, true, true, true, true, true, true, true, true, false, false, false, false, false, false, false, false] rfl rfl (any_of HT_.out (by kernel_rfl)) (fun _ _ _ h => h) (Or.inl ⟨by rfl, ?_⟩) ?_ ?_
                            rotate_left
                            · intro w'
                              go_simp
                              first | with_reducible rfl | (have hq_ := of_decide_eq_true c15b1; have hl_ := (Kd.R_reads' HO220.out).2.1; rw [if_pos (by omega)] <;> with_reducible rfl) | (have hq_ := of_decide_eq_true c15b1; have hl_ := (Kd.R_reads' HO227.out).2.1; rw [if_pos (by omega)] <;> with_reducible rfl) | (have hq_ := of_decide_eq_true c15b1; have hl_ := (Kd.R_reads' HO234.out).2.1; rw [if_pos (by omega)] <;> with_reducible rfl) | (have hq_ := of_decide_eq_true c15b1; have hl_ := (Kd.R_reads' HO238.out).2.1; rw [if_pos (by omega)] <;> with_reducible rfl) | (have hq_ := of_decide_eq_true c15b1; have hl_ := (Kd.R_reads' HO260.out).2.1; rw [if_pos (by omega)] <;> with_reducible rfl) | (have hq_ := of_decide_eq_true c25b1; have hl_ := (Kd.R_reads' HO220.out).2.1; rw [if_pos (by omega)] <;> with_reducible rfl) | (have hq_ := of_decide_eq_true c25b1; have hl_ := (Kd.R_reads' HO227.out).2.1; rw [if_pos (by omega)] <;> with_reducible rfl) | (have hq_ := of_decide_eq_true c25b1; have hl_ := (Kd.R_reads' HO234.out).2.1; rw [if_pos (by omega)] <;> with_reducible rfl) | (have hq_ := of_decide_eq_true c25b1; have hl_ := (Kd.R_reads' HO238.out).2.1; rw [if_pos (by omega)] <;> with_reducible rfl) | (have hq_ := of_decide_eq_true c25b1; have hl_ := (Kd.R_reads' HO260.out).2.1; rw [if_pos (by omega)] <;> with_reducible rfl)
                            rotate_left
                            · simp only [Act.put, List.setIfInBounds_toArray, List.set_cons_zero, List.set_cons_succ, i64_w, i32_w]
                              rfl
                            refine pure_ (i := 40) (N := some 77) (v := ?_) (a' := ?_) #[true, true, true, true, true, true, true, true, true, true, true, true, true, true, true, true, true, true, true, true, true, true, true, true, true, true, true, true, true, true, true, true, true, true, true, true, true, true, true, true, true, false, false, false, false, false, false, false] rfl rfl (any_of HT_.out (by kernel_rfl)) (fun _ _ _ h => h) (Or.inl ⟨by rfl, ?_⟩) ?_ ?_
                            rotate_left
                            · intro w'
                              go_simp
                              first | with_reducible rfl | (have hq_ := of_decide_eq_true c15b1; have hl_ := (Kd.R_reads' HO220.out).2.1; rw [if_pos (by omega)] <;> with_reducible rfl) | (have hq_ := of_decide_eq_true c15b1; have hl_ := (Kd.R_reads' HO227.out).2.1; rw [if_pos (by omega)] <;> with_reducible rfl) | (have hq_ := of_decide_eq_true c15b1; have hl_ := (Kd.R_reads' HO234.out).2.1; rw [if_pos (by omega)] <;> with_reducible rfl) | (have hq_ := of_decide_eq_true c15b1; have hl_ := (Kd.R_reads' HO238.out).2.1; rw [if_pos (by omega)] <;> with_reducible rfl) | (have hq_ := of_decide_eq_true c15b1; have hl_ := (Kd.R_reads' HO260.out).2.1; rw [if_pos (by omega)] <;> with_reducible rfl) | (have hq_ := of_decide_eq_true c25b1; have hl_ := (Kd.R_reads' HO220.out).2.1; rw [if_pos (by omega)] <;> with_reducible rfl) | (have hq_ := of_decide_eq_true c25b1; have hl_ := (Kd.R_reads' HO227.out).2.1; rw [if_pos (by omega)] <;> with_reducible rfl) | (have hq_ := of_decide_eq_true c25b1; have hl_ := (Kd.R_reads' HO234.out).2.1; rw [if_pos (by omega)] <;> with_reducible rfl) | (have hq_ := of_decide_eq_true c25b1; have hl_ := (Kd.R_reads' HO238.out).2.1; rw [if_pos (by omega)] <;> with_reducible rfl) | (have hq_ := of_decide_eq_true c25b1; have hl_ := (Kd.R_reads' HO260.out).2.1; rw [if_pos (by omega)] <;> with_reducible rfl)
                            rotate_left
                            · simp only [Act.put, List.setIfInBounds_toArray, List.set_cons_zero, List.set_cons_succ, i64_w, i32_w]
                              rfl
                            refine pure_ (i := 41) (N := some 78) (v := ?_) (a' := ?_) #[true, true, true, true, true, true, true, true, true, true, true, true, true, true, true, true, true, true, true, true, true, true, true, true, true, true, true, true, true, true, true, true, true, true, true, true, true, true, true, true, true, true, false, false, false, false, false, false] rfl rfl (any_of HT_.out (by kernel_rfl)) (fun _ _ _ h => h) (Or.inl ⟨by rfl, ?_⟩) ?_ ?_
                            rotate_left
                            · intro w'
                              go_simp
                              first | with_reducible rfl | (have hq_ := of_decide_eq_true c15b1; have hl_ := (Kd.R_reads' HO220.out).2.1; rw [if_pos (by omega)] <;> with_reducible rfl) | (have hq_ := of_decide_eq_true c15b1; have hl_ := (Kd.R_reads' HO227.out).2.1; rw [if_pos (by omega)] <;> with_reducible rfl) | (have hq_ := of_decide_eq_true c15b1; have hl_ := (Kd.R_reads' HO234.out).2.1; rw [if_pos (by omega)] <;> with_reducible rfl) | (have hq_ := of_decide_eq_true c15b1; have hl_ := (Kd.R_reads' HO238.out).2.1; rw [if_pos (by omega)] <;> with_reducible rfl) | (have hq_ := of_decide_eq_true c15b1; have hl_ := (Kd.R_reads' HO260.out).2.1; rw [if_pos (by omega)] <;> with_reducible rfl) | (have hq_ := of_decide_eq_true c25b1; have hl_ := (Kd.R_reads' HO220.out).2.1; rw [if_pos (by omega)] <;> with_reducible rfl) | (have hq_ := of_decide_eq_true c25b1; have hl_ := (Kd.R_reads' HO227.out).2.1; rw [if_pos (by omega)] <;> with_reducible rfl) | (have hq_ := of_decide_eq_true c25b1; have hl_ := (Kd.R_reads' HO234.out).2.1; rw [if_pos (by omega)] <;> with_reducible rfl) | (have hq_ := of_decide_eq_true c25b1; have hl_ := (Kd.R_reads' HO238.out).2.1; rw [if_pos (by omega)] <;> with_reducible rfl) | (have hq_ := of_decide_eq_true c25b1; have hl_ := (Kd.R_reads' HO260.out).2.1; rw [if_pos (by omega)] <;> with_reducible rfl)
                            rotate_left
                            · simp only [Act.put, List.setIfInBounds_toArray, List.set_cons_zero, List.set_cons_succ, i64_w, i32_w]
                              rfl
                            refine pure_ (i := 42) (N := some 79) (v := ?_) (a' := ?_) #[true, true, true, true, true, true, true, true, true, true, true, true, true, true, true, true, true, true, true, true, true, true, true, true, true, true, true, true, true, true, true, true, true, true, true, true, true, true, true, true, true, true, true, false, false, false, false, false] rfl rfl (any_of HT_.out (by kernel_rfl)) (fun _ _ _ h => h) (Or.inl ⟨by rfl, ?_⟩) ?_ ?_
                            rotate_left
                            · intro w'
                              go_simp
                              first | with_reducible rfl | (have hq_ := of_decide_eq_true c15b1; have hl_ := (Kd.R_reads' HO220.out).2.1; rw [if_pos (by omega)] <;> with_reducible rfl) | (have hq_ := of_decide_eq_true c15b1; have hl_ := (Kd.R_reads' HO227.out).2.1; rw [if_pos (by omega)] <;> with_reducible rfl) | (have hq_ := of_decide_eq_true c15b1; have hl_ := (Kd.R_reads' HO234.out).2.1; rw [if_pos (by omega)] <;> with_reducible rfl) | (have hq_ := of_decide_eq_true c15b1; have hl_ := (Kd.R_reads' HO238.out).2.1; rw [if_pos (by omega)] <;> with_reducible rfl) | (have hq_ := of_decide_eq_true c15b1; have hl_ := (Kd.R_reads' HO260.out).2.1; rw [if_pos (by omega)] <;> with_reducible rfl) | (have hq_ := of_decide_eq_true c25b1; have hl_ := (Kd.R_reads' HO220.out).2.1; rw [if_pos (by omega)] <;> with_reducible rfl) | (have hq_ := of_decide_eq_true c25b1; have hl_ := (Kd.R_reads' HO227.out).2.1; rw [if_pos (by omega)] <;> with_reducible rfl) | (have hq_ := of_decide_eq_true c25b1; have hl_ := (Kd.R_reads' HO234.out).2.1; rw [if_pos (by omega)] <;> with_reducible rfl) | (have hq_ := of_decide_eq_true c25b1; have hl_ := (Kd.R_reads' HO238.out).2.1; rw [if_pos (by omega)] <;> with_reducible rfl) | (have hq_ := of_decide_eq_true c25b1; have hl_ := (Kd.R_reads' HO260.out).2.1; rw [if_pos (by omega)] <;> with_reducible rfl)
                            rotate_left
                            · simp only [Act.put, List.setIfInBounds_toArray, List.set_cons_zero, List.set_cons_succ, i64_w, i32_w]
                              rfl
                            refine pure_ (i := 44) (N := some 81) (v := ?_) (a' := ?_) #[true, true, true, true, true, true, true, true, true, true, true, true, true, true, true, true, true, true, true, true, true, true, true, true, true, true, true, true, true, true, true, true, true, true, true, true, true, true, true, true, true, true, true, false, true, false, false, false] rfl rfl (any_of HT_.out (by kernel_rfl)) (fun _ _ _ h => h) (Or.inl ⟨by rfl, ?_⟩) ?_ ?_
                            rotate_left
                            · intro w'
                              go_simp
                              first | with_reducible rfl | (have hq_ := of_decide_eq_true c15b1; have hl_ := (Kd.R_reads' HO220.out).2.1; rw [if_pos (by omega)] <;> with_reducible rfl) | (have hq_ := of_decide_eq_true c15b1; have hl_ := (Kd.R_reads' HO227.out).2.1; rw [if_pos (by omega)] <;> with_reducible rfl) | (have hq_ := of_decide_eq_true c15b1; have hl_ := (Kd.R_reads' HO234.out).2.1; rw [if_pos (by omega)] <;> with_reducible rfl) | (have hq_ := of_decide_eq_true c15b1; have hl_ := (Kd.R_reads' HO238.out).2.1; rw [if_pos (by omega)] <;> with_reducible rfl) | (have hq_ := of_decide_eq_true c15b1; have hl_ := (Kd.R_reads' HO260.out).2.1; rw [if_pos (by omega)] <;> with_reducible rfl) | (have hq_ := of_decide_eq_true c25b1; have hl_ := (Kd.R_reads' HO220.out).2.1; rw [if_pos (by omega)] <;> with_reducible rfl) | (have hq_ := of_decide_eq_true c25b1; have hl_ := (Kd.R_reads' HO227.out).2.1; rw [if_pos (by omega)] <;> with_reducible rfl) | (have hq_ := of_decide_eq_true c25b1; have hl_ := (Kd.R_reads' HO234.out).2.1; rw [if_pos (by omega)] <;> with_reducible rfl) | (have hq_ := of_decide_eq_true c25b1; have hl_ := (Kd.R_reads' HO238.out).2.1; rw [if_pos (by omega)] <;> with_reducible rfl) | (have hq_ := of_decide_eq_true c25b1; have hl_ := (Kd.R_reads' HO260.out).2.1; rw [if_pos (by omega)] <;> with_reducible rfl)
                            rotate_left
                            · simp only [Act.put, List.setIfInBounds_toArray, List.set_cons_zero, List.set_cons_succ, i64_w, i32_w]
                              rfl
                            refine one_ (i := 43) (N := some 80) #[true, true, true, true, true, true, true, true, true, true, true, true, true, true, true, true, true, true, true, true, true, true, true, true, true, true, true, true, true, true, true, true, true, true, true, true, true, true, true, true, true, true, true, true, true, false, false, false] rfl rfl (one_of HT_.out (by kernel_rfl)) (by decide) (fun K hK => ?_)
                            refine goes_ Try.func13 (by kernel_rfl) rfl #[.slice (some ad221) y250.length co36, .slice A52 y254.length c52] (by rfl) rfl rfl (by (try simp only [List.map_toArray, List.map_cons, List.map_nil]); first | done | rfl | (simp only [List.length_drop, List.length_take]; rfl) | (have qy239 : y239.length = 2 := (by (rw [Ny239.out, List.length_take]; have := of_decide_eq_true c15b1; omega));  simp only [qy239] <;> rfl)) ?_
                            with_reducible refine (rank_Merge.calls _ _ y250 _ _ y254 t258 _ ?side1 ?side2 ?side3 ?side4 A27.out).mono ?_
                            (case side1 => repeat (first | exact (by repeat (first | (with_reducible exact HR253.out) | (with_reducible refine Kd.C_alloc ?_ _) | (with_reducible refine Kd.C_drewN ?_ _) | (with_reducible refine Kd.C_drew ?_) | exact HR253.out)) | (with_reducible refine Kd.C_alloc ?_ _) | (with_reducible refine Kd.C_drewN ?_ _) | (with_reducible refine Kd.C_drew ?_)))
                            (case side2 => exact HC253.out)
                            (case side3 => repeat (first | exact (by repeat (first | (with_reducible exact HR257.out) | (with_reducible refine Kd.C_alloc ?_ _) | (with_reducible refine Kd.C_drewN ?_ _) | (with_reducible refine Kd.C_drew ?_) | exact HR257.out)) | (with_reducible refine Kd.C_alloc ?_ _) | (with_reducible refine Kd.C_drewN ?_ _) | (with_reducible refine Kd.C_drew ?_)))
                            (case side4 => exact HC257.out)
                            rintro e w53 ⟨v259, rfl, ho0, hb⟩
                            have HS0_ := (hb.cell (World.block_lt_of_cell? _ _ (hHeld.1))).trans (hHeld.1)
                            have HS1_ := (hb.cell (World.block_lt_of_cell? _ _ (hHeld.2.1))).trans (hHeld.2.1)
                            have HS2_ := (hb.cell (World.block_lt_of_cell? _ _ (hHeld.2.2.1))).trans (hHeld.2.2.1)
                            have HS3_ := (hb.cell (World.block_lt_of_cell? _ _ (hHeld.2.2.2.1))).trans (hHeld.2.2.2.1)
                            have HS4_ := (hb.cell (World.block_lt_of_cell? _ _ (hHeld.2.2.2.2.1))).trans (hHeld.2.2.2.2.1)
                            have HS5_ := (hb.cell (World.block_lt_of_cell? _ _ (hHeld.2.2.2.2.2.1))).trans (hHeld.2.2.2.2.2.1)
                            have HS6_ := (hb.cell (World.block_lt_of_cell? _ _ (hHeld.2.2.2.2.2.2.1))).trans (hHeld.2.2.2.2.2.2.1)
                            have HS7_ := (hb.cell (World.block_lt_of_cell? _ _ (hHeld.2.2.2.2.2.2.2.1))).trans (hHeld.2.2.2.2.2.2.2.1)
                            have HS8_ := (hb.cell (World.block_lt_of_cell? _ _ (hHeld.2.2.2.2.2.2.2.2.1))).trans (hHeld.2.2.2.2.2.2.2.2.1)
                            have HS9_ := (hb.cell (World.block_lt_of_cell? _ _ (hHeld.2.2.2.2.2.2.2.2.2.1))).trans (hHeld.2.2.2.2.2.2.2.2.2.1)
                            have HS10_ := (hb.cell (World.block_lt_of_cell? _ _ (hHeld.2.2.2.2.2.2.2.2.2.2.1))).trans (hHeld.2.2.2.2.2.2.2.2.2.2.1)
                            have HS11_ := (hb.cell (World.block_lt_of_cell? _ _ (hHeld.2.2.2.2.2.2.2.2.2.2.2))).trans (hHeld.2.2.2.2.2.2.2.2.2.2.2)
                            refine ⟨_, rfl, ?_⟩
                            have n0_ := Aside0.mk (Kd.R_elder' (by (with_reducible repeat (first | apply Kd.R_alloc | apply Kd.R_drewN | apply Kd.R_drew)); exact HO220.out) (Kd.R_base ho0) hb)
                            have n1_ := Aside0.mk (Kd.R_elder' (by (with_reducible repeat (first | apply Kd.R_alloc | apply Kd.R_drewN | apply Kd.R_drew)); exact HO227.out) (Kd.R_base ho0) hb)
                            have n2_ := Aside0.mk (Kd.R_elder' (by (with_reducible repeat (first | apply Kd.R_alloc | apply Kd.R_drewN | apply Kd.R_drew)); exact HO234.out) (Kd.R_base ho0) hb)
                            have n3_ := Aside0.mk (Kd.R_elder' (by (with_reducible repeat (first | apply Kd.R_alloc | apply Kd.R_drewN | apply Kd.R_drew)); exact HO238.out) (Kd.R_base ho0) hb)
                            have n4_ := Aside0.mk (Kd.R_elder' (by (with_reducible repeat (first | apply Kd.R_alloc | apply Kd.R_drewN | apply Kd.R_drew)); exact HO246.out) (Kd.R_base ho0) hb)
                            have n5_ := Aside0.mk (Kd.R_lower (Kd.R_new' (Kd.R_new' (Kd.R_new' (Kd.R_new' (Kd.R_new' ho0 (Kd.R_lt (by (with_reducible repeat (first | apply Kd.R_alloc | apply Kd.R_drewN | apply Kd.R_drew)); exact HO220.out))) (Kd.R_lt (by (with_reducible repeat (first | apply Kd.R_alloc | apply Kd.R_drewN | apply Kd.R_drew)); exact HO227.out))) (Kd.R_lt (by (with_reducible repeat (first | apply Kd.R_alloc | apply Kd.R_drewN | apply Kd.R_drew)); exact HO234.out))) (Kd.R_lt (by (with_reducible repeat (first | apply Kd.R_alloc | apply Kd.R_drewN | apply Kd.R_drew)); exact HO238.out))) (Kd.R_lt (by (with_reducible repeat (first | apply Kd.R_alloc | apply Kd.R_drewN | apply Kd.R_drew)); exact HO246.out))) (below_size (by repeat (first | (with_reducible first | exact HB.out | apply below_alloc | apply pw_below_drewN | apply below_drew1) | exact HB.out))))
                            have n6_ := Aside0.mk (Kd.C_below (by repeat (first | (with_reducible exact HR242.out) | (with_reducible refine Kd.C_alloc ?_ _) | (with_reducible refine Kd.C_drewN ?_ _) | (with_reducible refine Kd.C_drew ?_) | exact HR242.out)) hb)
                            have n7_ := Aside0.mk (Kd.C_below (by repeat (first | (with_reducible exact HR253.out) | (with_reducible refine Kd.C_alloc ?_ _) | (with_reducible refine Kd.C_drewN ?_ _) | (with_reducible refine Kd.C_drew ?_) | exact HR253.out)) hb)
                            have n8_ := Aside0.mk (Kd.C_below (by repeat (first | (with_reducible exact HR257.out) | (with_reducible refine Kd.C_alloc ?_ _) | (with_reducible refine Kd.C_drewN ?_ _) | (with_reducible refine Kd.C_drew ?_) | exact HR257.out)) hb)
                            have n9_ := Aside0.mk (below_step (by repeat (first | (with_reducible first | exact HB.out | apply below_alloc | apply pw_below_drewN | apply below_drew1) | exact HB.out)) hb)
                            clear HO220
                            clear HO227
                            clear HO234
                            clear HO238
                            clear HO246
                            clear HR242
                            clear HR253
                            clear HR257
                            clear HB
                            have HO220 := n0_
                            have HO227 := n1_
                            have HO234 := n2_
                            have HO238 := n3_
                            have HO246 := n4_
                            have HO260 := n5_
                            have HR242 := n6_
                            have HR253 := n7_
                            have HR257 := n8_
                            have HB := n9_
                            clear n0_ n1_ n2_ n3_ n4_ n5_ n6_ n7_ n8_ n9_
                            (try clear hb)
                            (try clear hb2)
                            (try clear hk)
                            (try clear hi)
                            (try clear ho0)
                            obtain ⟨Ao54, co54, eo54⟩ := Kd.R_slice HO260.out
                            (first | subst eo54 | (injection eo54 with f1_ f2_ f3_; have f4_ := f1_.symm; have f5_ := f3_.symm; clear f1_ f2_ f3_; subst f4_; subst f5_))
                            refine hK.out _ _ ⟨HS0_, HS1_, HS2_, HS3_, HS4_, HS5_, HS6_, HS7_, HS8_, HS9_, HS10_, HS11_⟩ (fun hHeld => ?_)
                            clear hK K
                            refine norm_ (a' := ?_) ?_ ?_
                            rotate_left
                            · show Act.put _ (some 80) _ = _
                              simp only [Act.put, List.setIfInBounds_toArray, List.set_cons_zero, List.set_cons_succ, i64_w, i32_w]
                              rfl
                            refine one_ (i := 45) (N := some 82) #[true, true, true, true, true, true, true, true, true, true, true, true, true, true, true, true, true, true, true, true, true, true, true, true, true, true, true, true, true, true, true, true, true, true, true, true, true, true, true, true, true, true, true, true, true, true, false, false] rfl rfl (one_of HT_.out (by kernel_rfl)) (by decide) (fun K hK => ?_)
                            refine goes_ Try.func14 (by kernel_rfl) rfl #[.slice Ao54 t258.length co54, .slice Ao44 y225.length co44] (by rfl) rfl rfl (by (try simp only [List.map_toArray, List.map_cons, List.map_nil]); first | done | rfl | (simp only [List.length_drop, List.length_take]; rfl) | (have qy239 : y239.length = 2 := (by (rw [Ny239.out, List.length_take]; have := of_decide_eq_true c15b1; omega));  simp only [qy239] <;> rfl)) ?_
                            with_reducible refine (watchmanref07_Same.calls k _ _ t258 _ _ y225 t261 _ ?side1 ?side2 ?side3 ?side4 A28.out).mono ?_
                            (case side1 => repeat (first | exact (Kd.R_reads' HO260.out).2.2 | (with_reducible refine Kd.C_alloc ?_ _) | (with_reducible refine Kd.C_drewN ?_ _) | (with_reducible refine Kd.C_drew ?_)))
                            (case side2 => exact (Kd.R_reads' HO260.out).2.1)
                            (case side3 => repeat (first | exact (Kd.R_reads' HO227.out).2.2 | (with_reducible refine Kd.C_alloc ?_ _) | (with_reducible refine Kd.C_drewN ?_ _) | (with_reducible refine Kd.C_drew ?_)))
                            (case side4 => exact (Kd.R_reads' HO227.out).2.1)
                            rintro e w' ⟨rfl, ⟨nd, rfl⟩⟩
                            refine ⟨_, rfl, ?_⟩
                            refine hK.out _ _ ⟨hHeld.1, hHeld.2.1, hHeld.2.2.1, hHeld.2.2.2.1, hHeld.2.2.2.2.1, hHeld.2.2.2.2.2.1, hHeld.2.2.2.2.2.2.1, hHeld.2.2.2.2.2.2.2.1, hHeld.2.2.2.2.2.2.2.2.1, hHeld.2.2.2.2.2.2.2.2.2.1, hHeld.2.2.2.2.2.2.2.2.2.2.1, hHeld.2.2.2.2.2.2.2.2.2.2.2⟩ (fun hHeld => ?_)
                            clear hK K
                            refine norm_ (a' := ?_) ?_ ?_
                            rotate_left
                            · show Act.put _ (some 82) _ = _
                              simp only [Act.put, List.setIfInBounds_toArray, List.set_cons_zero, List.set_cons_succ, i64_w, i32_w]
                              rfl
                            refine pure_ (i := 46) (N := some 83) (v := ?_) (a' := ?_) #[true, true, true, true, true, true, true, true, true, true, true, true, true, true, true, true, true, true, true, true, true, true, true, true, true, true, true, true, true, true, true, true, true, true, true, true, true, true, true, true, true, true, true, true, true, true, true, false] rfl rfl (any_of HT_.out (by kernel_rfl)) (fun _ _ _ h => h) (Or.inl ⟨by rfl, ?_⟩) ?_ ?_
                            rotate_left
                            · intro w'
                              go_simp
                              first | with_reducible rfl | (have hq_ := of_decide_eq_true c15b1; have hl_ := (Kd.R_reads' HO220.out).2.1; rw [if_pos (by omega)] <;> with_reducible rfl) | (have hq_ := of_decide_eq_true c15b1; have hl_ := (Kd.R_reads' HO227.out).2.1; rw [if_pos (by omega)] <;> with_reducible rfl) | (have hq_ := of_decide_eq_true c15b1; have hl_ := (Kd.R_reads' HO234.out).2.1; rw [if_pos (by omega)] <;> with_reducible rfl) | (have hq_ := of_decide_eq_true c15b1; have hl_ := (Kd.R_reads' HO238.out).2.1; rw [if_pos (by omega)] <;> with_reducible rfl) | (have hq_ := of_decide_eq_true c15b1; have hl_ := (Kd.R_reads' HO260.out).2.1; rw [if_pos (by omega)] <;> with_reducible rfl) | (have hq_ := of_decide_eq_true c25b1; have hl_ := (Kd.R_reads' HO220.out).2.1; rw [if_pos (by omega)] <;> with_reducible rfl) | (have hq_ := of_decide_eq_true c25b1; have hl_ := (Kd.R_reads' HO227.out).2.1; rw [if_pos (by omega)] <;> with_reducible rfl) | (have hq_ := of_decide_eq_true c25b1; have hl_ := (Kd.R_reads' HO234.out).2.1; rw [if_pos (by omega)] <;> with_reducible rfl) | (have hq_ := of_decide_eq_true c25b1; have hl_ := (Kd.R_reads' HO238.out).2.1; rw [if_pos (by omega)] <;> with_reducible rfl) | (have hq_ := of_decide_eq_true c25b1; have hl_ := (Kd.R_reads' HO260.out).2.1; rw [if_pos (by omega)] <;> with_reducible rfl)
                            rotate_left
                            · simp only [Act.put, List.setIfInBounds_toArray, List.set_cons_zero, List.set_cons_succ, i64_w, i32_w]
                              rfl
                            refine pure_ (i := 47) (N := some 0) (v := ?_) (a' := ?_) #[true, true, true, true, true, true, true, true, true, true, true, true, true, true, true, true, true, true, true, true, true, true, true, true, true, true, true, true, true, true, true, true, true, true, true, true, true, true, true, true, true, true, true, true, true, true, true, true] rfl rfl (any_of HT_.out (by kernel_rfl)) (fun _ _ _ h => h) (Or.inl ⟨by rfl, ?_⟩) ?_ ?_
                            rotate_left
                            · intro w'
                              go_simp
                              first | with_reducible rfl | (have hq_ := of_decide_eq_true c15b1; have hl_ := (Kd.R_reads' HO220.out).2.1; rw [if_pos (by omega)] <;> with_reducible rfl) | (have hq_ := of_decide_eq_true c15b1; have hl_ := (Kd.R_reads' HO227.out).2.1; rw [if_pos (by omega)] <;> with_reducible rfl) | (have hq_ := of_decide_eq_true c15b1; have hl_ := (Kd.R_reads' HO234.out).2.1; rw [if_pos (by omega)] <;> with_reducible rfl) | (have hq_ := of_decide_eq_true c15b1; have hl_ := (Kd.R_reads' HO238.out).2.1; rw [if_pos (by omega)] <;> with_reducible rfl) | (have hq_ := of_decide_eq_true c15b1; have hl_ := (Kd.R_reads' HO260.out).2.1; rw [if_pos (by omega)] <;> with_reducible rfl) | (have hq_ := of_decide_eq_true c25b1; have hl_ := (Kd.R_reads' HO220.out).2.1; rw [if_pos (by omega)] <;> with_reducible rfl) | (have hq_ := of_decide_eq_true c25b1; have hl_ := (Kd.R_reads' HO227.out).2.1; rw [if_pos (by omega)] <;> with_reducible rfl) | (have hq_ := of_decide_eq_true c25b1; have hl_ := (Kd.R_reads' HO234.out).2.1; rw [if_pos (by omega)] <;> with_reducible rfl) | (have hq_ := of_decide_eq_true c25b1; have hl_ := (Kd.R_reads' HO238.out).2.1; rw [if_pos (by omega)] <;> with_reducible rfl) | (have hq_ := of_decide_eq_true c25b1; have hl_ := (Kd.R_reads' HO260.out).2.1; rw [if_pos (by omega)] <;> with_reducible rfl)
                            rotate_left
                            · simp only [Act.put, List.setIfInBounds_toArray, List.set_cons_zero, List.set_cons_succ, i64_w, i32_w]
                              rfl
                            refine done_ (done_of HT_.out (by kernel_rfl)) ?_
                            try go_wp2
                            go_ret
                            exact ⟨by first | rfl | (simp [errW_none, errW_some] <;> rfl) | (simp [*, errW_none, errW_some] <;> rfl), by repeat (first | (with_reducible first | exact HB.out | apply below_alloc | apply pw_below_drewN | apply below_drew1) | exact HB.out)⟩
                          · rw [if_neg c25] at H
                            exact absurd H (by simp)
                        · rw [if_neg c24] at H
                          exact absurd H (by simp)
                    · rw [if_neg c21] at H
                      exact absurd H (by simp)
                  · replace c20 := Bool.eq_false_iff.mpr c20
                    subst c20
                    have H1 : (none) = some r := by rw [if_neg (show ¬ (false = true) by decide)] at H; exact H
                    clear H
                    have H := H1
                    clear H1
                    exact absurd H (by simp)
                · rw [if_neg c19] at H
                  exact absurd H (by simp)
              · replace c17 := Bool.eq_false_iff.mpr c17
                subst c17
                have H1 : (none) = some r := by rw [if_neg (show ¬ (false = true) by decide)] at H; exact H
                clear H
                have H := H1
                clear H1
                exact absurd H (by simp)
            · rw [if_neg c15] at H
              exact absurd H (by simp)
          · replace c13 := Bool.eq_false_iff.mpr c13
            subst c13
            have H1 : (none) = some r := by rw [if_neg (show ¬ (false = true) by decide)] at H; exact H
            clear H
            have H := H1
            clear H1
            exact absurd H (by simp)
        · rw [if_neg c8] at H
          exact absurd H (by simp)
      · rw [if_neg c7] at H
        exact absurd H (by simp)
    · rw [if_neg c6] at H
      exact absurd H (by simp)
  · rw [if_neg c5] at H
    exact absurd H (by simp)
end Go.Proofs.Ytjjagjehaoidbaa.P

