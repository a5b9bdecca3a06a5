/- The statement RankDoes is proved: the call returns true for every input. No conditions. -/
import Derived.Test.YtjjagjehaoidbaaA4
import Derived.WalkKit
import Derived.ProofKit
import Derived.OpenShut
import Derived.Carry
import Derived.SizedLaws
import Derived.Deep.Slices
import Derived.ShutString
import Derived.ChangeOld
import Derived.Below
import Derived.Test.YtjjagjehaoidbaaRows
set_option linter.unusedVariables false
set_option linter.unusedSimpArgs false
set_option linter.unusedSectionVars false
namespace Go.Proofs.Ytjjagjehaoidbaa.P
open Go.RowKit Go.Proofs.YtjjagjehaoidbaaW.PrintWords Go.Proofs.YtjjagjehaoidbaaW.PrintLast Go.Proofs.YtjjagjehaoidbaaW.PrintMore
attribute [local go_sem] max2_int min2_int max_two min_two max_three min_three max_four min_four
set_option linter.unusedVariables false
set_option linter.unusedSimpArgs false
mutual
def watchmanlaw07_RankDoes.j0 : Nat → List (S34) → List (S34) → Int → Bool → Int → Int → Option (Bool)
  | 0, _, _, _, _, _, _ => none
  | k + 1, x0, x1, x2, x25, x263000, x263001 => if x25 = true then (some true) else ((watchmanref07_Own.f x0).bind fun t263 => ((rank_Sort.f x0).bind fun t266 => ((rank_Top.f x2 x0).bind fun t269 => ((rank_Place.f x0 x263000 x263001).bind fun bt272 => ((watchmanref07_Place.f k t263 x263000 x263001).bind fun bt274 => ((rank_Merge.f x0 x1).bind fun t276 => ((watchmanref07_Sort.f k t263).bind fun t279 => ((watchmanref07_Same.f k t266 t279).bind fun t282 => (if t282 = true then ((watchmanref07_Top.f k x2 t263).bind fun t283 => ((watchmanref07_Same.f k t269 t283).bind fun t286 => (if t286 = true then (if bt272.1 = bt274.1 then (if (bt272.2 == bt274.2) = true then ((watchmanref07_Merge.f k t263 x1).bind fun t287 => ((watchmanref07_Same.f k t276 t287).bind fun t290 => (watchmanlaw07_RankDoes.j1 k x0 x1 t263 t266 t269 t276 t290))) else (watchmanlaw07_RankDoes.j1 k x0 x1 t263 t266 t269 t276 false)) else (watchmanlaw07_RankDoes.j1 k x0 x1 t263 t266 t269 t276 false)) else (watchmanlaw07_RankDoes.j1 k x0 x1 t263 t266 t269 t276 false)))) else (watchmanlaw07_RankDoes.j1 k x0 x1 t263 t266 t269 t276 false))))))))))
def watchmanlaw07_RankDoes.j1 : Nat → List (S34) → List (S34) → List (S34) → List (S34) → List (S34) → List (S34) → Bool → Option (Bool)
  | 0, _, _, _, _, _, _, _ => none
  | k + 1, x0, x1, x9, x10, x11, x16, x17 => if (x0.length : Int) > 0 then (if (x1.length : Int) > 0 then (if 0 < (x0.length : Int) then (if 0 < (x1.length : Int) then ((rank_Compare.f ((rd_T34 x0 0).f0.f0) ((rd_T34 x0 0).f0.f1) ((rd_T34 x0 0).f1) ((rd_T34 x0 0).f2) ((rd_T34 x0 0).f3) ((rd_T34 x0 0).f4) ((rd_T34 x1 0).f0.f0) ((rd_T34 x1 0).f0.f1) ((rd_T34 x1 0).f1) ((rd_T34 x1 0).f2) ((rd_T34 x1 0).f3) ((rd_T34 x1 0).f4)).bind fun t293 => ((watchmanref07_Compare.f k ((rd_T34 x0 0).f0.f0) ((rd_T34 x0 0).f0.f1) ((rd_T34 x0 0).f1) ((rd_T34 x0 0).f2) ((rd_T34 x0 0).f3) ((rd_T34 x0 0).f4) ((rd_T34 x1 0).f0.f0) ((rd_T34 x1 0).f0.f1) ((rd_T34 x1 0).f1) ((rd_T34 x1 0).f2) ((rd_T34 x1 0).f3) ((rd_T34 x1 0).f4)).bind fun t296 => (watchmanlaw07_RankDoes.j2 k x0 x9 x10 x11 x16 x17 (t293 != t296)))) else (none)) else (none)) else (watchmanlaw07_RankDoes.j2 k x0 x9 x10 x11 x16 x17 false)) else (watchmanlaw07_RankDoes.j2 k x0 x9 x10 x11 x16 x17 false)
def watchmanlaw07_RankDoes.j2 : Nat → List (S34) → List (S34) → List (S34) → List (S34) → List (S34) → Bool → Bool → Option (Bool)
  | 0, _, _, _, _, _, _, _ => none
  | k + 1, x0, x9, x10, x11, x16, x17, x100 => if x100 = true then (none) else ((watchmanlaw07_smudge.f k x10).bind fun t297 => ((watchmanlaw07_smudge.f k x11).bind fun t298 => ((watchmanlaw07_smudge.f k x16).bind fun t299 => ((watchmanlaw07_ranked.f k).bind fun t300 => (if t300 = true then (if x17 = true then ((watchmanref07_Same.f k x0 x9).bind fun t301 => (some t301)) else (none)) else (none))))))
end
def watchmanlaw07_RankDoes.f (k : Nat) (l0 : List (S34)) (l1 : List (S34)) (a2 : Int) (a3_0 : Int) (a3_1 : Int) : Option (Bool) := if (l0.length : Int) > 60 then (watchmanlaw07_RankDoes.j0 k l0 l1 a2 true a3_0 a3_1) else (watchmanlaw07_RankDoes.j0 k l0 l1 a2 (decide ((l1.length : Int) > 60)) a3_0 a3_1)
theorem watchmanlaw07_RankDoes.mono_l : ∀ k, (∀ y0 y1 y2 y3 y4 y5, LeO (watchmanlaw07_RankDoes.j0 k y0 y1 y2 y3 y4 y5) (watchmanlaw07_RankDoes.j0 (k + 1) y0 y1 y2 y3 y4 y5)) ∧ (∀ y0 y1 y2 y3 y4 y5 y6, LeO (watchmanlaw07_RankDoes.j1 k y0 y1 y2 y3 y4 y5 y6) (watchmanlaw07_RankDoes.j1 (k + 1) y0 y1 y2 y3 y4 y5 y6)) ∧ (∀ y0 y1 y2 y3 y4 y5 y6, LeO (watchmanlaw07_RankDoes.j2 k y0 y1 y2 y3 y4 y5 y6) (watchmanlaw07_RankDoes.j2 (k + 1) y0 y1 y2 y3 y4 y5 y6))
  | 0 => ⟨fun _ _ _ _ _ _ r h => by simp [watchmanlaw07_RankDoes.j0] at h, fun _ _ _ _ _ _ _ r h => by simp [watchmanlaw07_RankDoes.j1] at h, fun _ _ _ _ _ _ _ r h => by simp [watchmanlaw07_RankDoes.j2] at h⟩
  | k + 1 => by
    obtain ⟨ih0, ih1, ih2⟩ := watchmanlaw07_RankDoes.mono_l k
    refine ⟨?_, ?_, ?_⟩
    · intro y0 y1 y2 y3 y4 y5
      unfold watchmanlaw07_RankDoes.j0
      repeat' first
      | (with_reducible exact ih0 _ _ _ _ _ _)
      | (with_reducible exact ih1 _ _ _ _ _ _ _)
      | (with_reducible exact ih2 _ _ _ _ _ _ _)
      | (with_reducible exact watchmanlaw07_ranked.mono _)
      | (with_reducible exact watchmanlaw07_smudge.mono _ _)
      | (with_reducible exact watchmanref07_Compare.mono _ _ _ _ _ _ _ _ _ _ _ _ _)
      | (with_reducible exact watchmanref07_Merge.mono _ _ _)
      | (with_reducible exact watchmanref07_Place.mono _ _ _ _)
      | (with_reducible exact watchmanref07_Same.mono _ _ _)
      | (with_reducible exact watchmanref07_Sort.mono _ _)
      | (with_reducible exact watchmanref07_Top.mono _ _ _)
      | (with_reducible exact LeO.refl _)
      | (with_reducible exact LeO.none _)
      | (with_reducible refine LeO.ite ?_ ?_)
      | (with_reducible refine LeO.bind ?_ (fun _ => ?_))
      | exact ih0 _ _ _ _ _ _
      | exact ih1 _ _ _ _ _ _ _
      | exact ih2 _ _ _ _ _ _ _
      | exact watchmanlaw07_ranked.mono _
      | exact watchmanlaw07_smudge.mono _ _
      | exact watchmanref07_Compare.mono _ _ _ _ _ _ _ _ _ _ _ _ _
      | exact watchmanref07_Merge.mono _ _ _
      | exact watchmanref07_Place.mono _ _ _ _
      | exact watchmanref07_Same.mono _ _ _
      | exact watchmanref07_Sort.mono _ _
      | exact watchmanref07_Top.mono _ _ _
      | exact LeO.none _
      | refine LeO.ite ?_ ?_
      | refine LeO.bind ?_ (fun _ => ?_)
    · intro y0 y1 y2 y3 y4 y5 y6
      unfold watchmanlaw07_RankDoes.j1
      repeat' first
      | (with_reducible exact ih0 _ _ _ _ _ _)
      | (with_reducible exact ih1 _ _ _ _ _ _ _)
      | (with_reducible exact ih2 _ _ _ _ _ _ _)
      | (with_reducible exact watchmanlaw07_ranked.mono _)
      | (with_reducible exact watchmanlaw07_smudge.mono _ _)
      | (with_reducible exact watchmanref07_Compare.mono _ _ _ _ _ _ _ _ _ _ _ _ _)
      | (with_reducible exact watchmanref07_Merge.mono _ _ _)
      | (with_reducible exact watchmanref07_Place.mono _ _ _ _)
      | (with_reducible exact watchmanref07_Same.mono _ _ _)
      | (with_reducible exact watchmanref07_Sort.mono _ _)
      | (with_reducible exact watchmanref07_Top.mono _ _ _)
      | (with_reducible exact LeO.refl _)
      | (with_reducible exact LeO.none _)
      | (with_reducible refine LeO.ite ?_ ?_)
      | (with_reducible refine LeO.bind ?_ (fun _ => ?_))
      | exact ih0 _ _ _ _ _ _
      | exact ih1 _ _ _ _ _ _ _
      | exact ih2 _ _ _ _ _ _ _
      | exact watchmanlaw07_ranked.mono _
      | exact watchmanlaw07_smudge.mono _ _
      | exact watchmanref07_Compare.mono _ _ _ _ _ _ _ _ _ _ _ _ _
      | exact watchmanref07_Merge.mono _ _ _
      | exact watchmanref07_Place.mono _ _ _ _
      | exact watchmanref07_Same.mono _ _ _
      | exact watchmanref07_Sort.mono _ _
      | exact watchmanref07_Top.mono _ _ _
      | exact LeO.none _
      | refine LeO.ite ?_ ?_
      | refine LeO.bind ?_ (fun _ => ?_)
    · intro y0 y1 y2 y3 y4 y5 y6
      unfold watchmanlaw07_RankDoes.j2
      repeat' first
      | (with_reducible exact ih0 _ _ _ _ _ _)
      | (with_reducible exact ih1 _ _ _ _ _ _ _)
      | (with_reducible exact ih2 _ _ _ _ _ _ _)
      | (with_reducible exact watchmanlaw07_ranked.mono _)
      | (with_reducible exact watchmanlaw07_smudge.mono _ _)
      | (with_reducible exact watchmanref07_Compare.mono _ _ _ _ _ _ _ _ _ _ _ _ _)
      | (with_reducible exact watchmanref07_Merge.mono _ _ _)
      | (with_reducible exact watchmanref07_Place.mono _ _ _ _)
      | (with_reducible exact watchmanref07_Same.mono _ _ _)
      | (with_reducible exact watchmanref07_Sort.mono _ _)
      | (with_reducible exact watchmanref07_Top.mono _ _ _)
      | (with_reducible exact LeO.refl _)
      | (with_reducible exact LeO.none _)
      | (with_reducible refine LeO.ite ?_ ?_)
      | (with_reducible refine LeO.bind ?_ (fun _ => ?_))
      | exact ih0 _ _ _ _ _ _
      | exact ih1 _ _ _ _ _ _ _
      | exact ih2 _ _ _ _ _ _ _
      | exact watchmanlaw07_ranked.mono _
      | exact watchmanlaw07_smudge.mono _ _
      | exact watchmanref07_Compare.mono _ _ _ _ _ _ _ _ _ _ _ _ _
      | exact watchmanref07_Merge.mono _ _ _
      | exact watchmanref07_Place.mono _ _ _ _
      | exact watchmanref07_Same.mono _ _ _
      | exact watchmanref07_Sort.mono _ _
      | exact watchmanref07_Top.mono _ _ _
      | exact LeO.none _
      | refine LeO.ite ?_ ?_
      | refine LeO.bind ?_ (fun _ => ?_)
theorem watchmanlaw07_RankDoes.mono : ∀ a0 a1 a2 a3 a4 k, LeO (watchmanlaw07_RankDoes.f k a0 a1 a2 a3 a4) (watchmanlaw07_RankDoes.f (k + 1) a0 a1 a2 a3 a4) := by
  intro a0 a1 a2 a3 a4 k
  obtain ⟨ih0, ih1, ih2⟩ := watchmanlaw07_RankDoes.mono_l k
  unfold watchmanlaw07_RankDoes.f
  repeat' first
      | (with_reducible exact ih0 _ _ _ _ _ _)
      | (with_reducible exact ih1 _ _ _ _ _ _ _)
      | (with_reducible exact ih2 _ _ _ _ _ _ _)
      | (with_reducible exact watchmanlaw07_ranked.mono _)
      | (with_reducible exact watchmanlaw07_smudge.mono _ _)
      | (with_reducible exact watchmanref07_Compare.mono _ _ _ _ _ _ _ _ _ _ _ _ _)
      | (with_reducible exact watchmanref07_Merge.mono _ _ _)
      | (with_reducible exact watchmanref07_Place.mono _ _ _ _)
      | (with_reducible exact watchmanref07_Same.mono _ _ _)
      | (with_reducible exact watchmanref07_Sort.mono _ _)
      | (with_reducible exact watchmanref07_Top.mono _ _ _)
      | (with_reducible exact LeO.refl _)
      | (with_reducible exact LeO.none _)
      | (with_reducible refine LeO.ite ?_ ?_)
      | (with_reducible refine LeO.bind ?_ (fun _ => ?_))
      | exact ih0 _ _ _ _ _ _
      | exact ih1 _ _ _ _ _ _ _
      | exact ih2 _ _ _ _ _ _ _
      | exact watchmanlaw07_ranked.mono _
      | exact watchmanlaw07_smudge.mono _ _
      | exact watchmanref07_Compare.mono _ _ _ _ _ _ _ _ _ _ _ _ _
      | exact watchmanref07_Merge.mono _ _ _
      | exact watchmanref07_Place.mono _ _ _ _
      | exact watchmanref07_Same.mono _ _ _
      | exact watchmanref07_Sort.mono _ _
      | exact watchmanref07_Top.mono _ _ _
      | exact LeO.none _
      | refine LeO.ite ?_ ?_
      | refine LeO.bind ?_ (fun _ => ?_)
def watchmanlaw07_RankDoes.T10 : Bool × List (List Nat × List Nat) := (true, [([], []), ([0], [0]), ([1], [1]), ([2], [2]), ([3], [3]), ([4, 3], [3, 4]), ([5, 3], [3, 5]), ([3, 6], [3, 6]), ([7, 3], [7]), ([8], [8]), ([9, 8], [8, 9]), ([10, 8], [8, 10]), ([8], [8]), ([12, 8], [8, 12]), ([13, 8], [8, 13]), ([11, 14, 8, 8], [8, 11, 14]), ([8], [8]), ([16, 8], [8, 16]), ([17, 8], [8, 17]), ([8], [8]), ([19, 8], [8, 19]), ([20, 8], [8, 20]), ([18, 21, 15, 8], [8, 18, 21]), ([15, 22, 8], [8, 15, 22]), ([8, 23], [8, 23])])
def watchmanlaw07_RankDoes.B10 : List Nat := [0, 1, 3, 7, 15, 31, 63, 127, 255, 511, 1023, 2047, 511, 4607, 12799, 32767, 511, 66047, 197119, 511, 524799, 1573375, 4194303, 8388607, 16777215]
theorem watchmanlaw07_RankDoes.tab10 : rtab .any (opsOf Try.f3 10) = watchmanlaw07_RankDoes.T10 := by kernel_rfl
theorem watchmanlaw07_RankDoes.bits10 : waitsOk watchmanlaw07_RankDoes.T10.2 watchmanlaw07_RankDoes.B10 = true := by kernel_rfl
set_option maxHeartbeats 8000000 in
set_option maxRecDepth 100000 in
theorem watchmanlaw07_RankDoes.calls (k : Nat) (A0 : Option Addr) (c0 : Nat) (l0 : List (S34)) (A1 : Option Addr) (c1 : Nat) (l1 : List (S34)) (a2 : Int) (a3_0 : Int) (a3_1 : Int) (r : Bool) (w : World) (hr0 : Kd.C k34 w A0 l0.length l0) (hc0 : l0.length ≤ c0) (hr1 : Kd.C k34 w A1 l1.length l1) (hc1 : l1.length ≤ c1) (h : watchmanlaw07_RankDoes.f k l0 l1 a2 a3_0 a3_1 = some r) :
    Calls Try.prog 3 #[.slice A0 l0.length c0, .slice A1 l1.length c1, .int .i64 a2, .agg #[.int .i64 a3_0, .int .i64 a3_1]] w fun e w' => e = .returned (.bool r) ∧ Below w.heap.size w w' := by
  have hu24 := Try.underlying24
  have hu34 := Try.underlying34
  have HR0 := Aside0.mk hr0
  have HC0 := Aside0.mk hc0
  clear hr0 hc0
  have HR1 := Aside0.mk hr1
  have HC1 := Aside0.mk hc1
  clear hr1 hc1
  have HB := Aside0.mk (Below.refl w.heap.size w)
  have H : (if (l0.length : Int) > 60 then (watchmanlaw07_RankDoes.j0 k l0 l1 a2 true a3_0 a3_1) else (watchmanlaw07_RankDoes.j0 k l0 l1 a2 (decide ((l1.length : Int) > 60)) a3_0 a3_1)) = some r := h
  clear h
  have HC5 := Aside0.mk H
  clear H
  go_enter Try.func3, Try.ntmps3
  go_upto_region 1 with (first | ((with_reducible refine gate_dst (N := 7) rfl ?_); (try (refine gate_guard (by rfl) ?_; dsimp only)); refine box_event ?hg (N := 7) ?hd (cs := #[.int .i64 a3_0, .int .i64 a3_1]) (t := 24) ?hr ?_; (case hd => rfl); (case hg => rfl); (case hr => first | (go_simp; done) | (go_simp; rfl)); intro gb262 hg w6 hbox hb; have n0_ := Aside0.mk (below_step (by repeat (first | (with_reducible first | exact HB.out | apply below_alloc | apply pw_below_drewN | apply below_drew1) | exact HB.out)) hb); have n1_ := Aside0.mk (hbox); have n2_ := Aside0.mk ((by rw [hg]; exact (below_size (by repeat (first | (with_reducible first | exact HB.out | apply below_alloc | apply pw_below_drewN | apply below_drew1) | exact HB.out))) : w.heap.size ≤ gb262)); have n3_ := Aside0.mk ((by rw [hg]; exact (below_size (by repeat (first | (with_reducible first | exact HB.out | apply below_alloc | apply pw_below_drewN | apply below_drew1) | exact HB.out))) : w.heap.size ≤ gb262)); clear HB; have HB := n0_; have BK262 := n1_; have GW262 := n2_; have GE262 := n3_; clear n0_ n1_ n2_ n3_; clear hb hbox hg))
  (try simp only [Act.put, List.setIfInBounds_toArray, List.set_cons_zero, List.set_cons_succ])
  go_cut [25] (fun v25 wc => ∃ (kq : Nat) (x25_4 : Bool), v25 = .bool x25_4 ∧ Aside0 (watchmanlaw07_RankDoes.j0 kq l0 l1 a2 x25_4 a3_0 a3_1 = some r) ∧ Aside0 (kq ≤ k) ∧ Aside0 (wc.heap[gb262]? = some (.cells #[.int .i64 a3_0, .int .i64 a3_1] 24 (0, 0))) ∧ Aside0 (Below w.heap.size w wc))
  case first =>
    have H := HC5.out
    clear HC5
    by_cases c7 : (l0.length : Int) > 60
    · rw [if_pos c7] at H
      have c7b0 : decide (60 < (l0.length : Int)) = true := decide_eq_true c7
      have c7b1 : decide (60 < l0.length) = true := decide_eq_true (by omega)
      clear c7
      (first | rw [c7b0] | (simp only [i64_w, i32_w]; rw [c7b0]) | skip)
      have H' := Aside0.mk H
      clear H
      go_wp2
      go_meet
      case rel => exact ⟨_, (true), (by first | rfl | (simp; done) | (simp [*]; done)), H', ⟨by first | omega | exact Nat.le_refl _⟩, ⟨by (with_reducible repeat (first | refine blk_drewN ?_ _ | refine blk_drew ?_ | refine blk_alloc ?_ _)); exact BK262.out⟩, ⟨by repeat (first | (with_reducible first | exact HB.out | apply below_alloc | apply pw_below_drewN | apply below_drew1 | refine below_set ?_ GE262.out) | exact HB.out)⟩⟩
    · rw [if_neg c7] at H
      have c7b0 : decide (60 < (l0.length : Int)) = false := decide_eq_false c7
      have c7b1 : decide (60 < l0.length) = false := decide_eq_false (by omega)
      clear c7
      (first | rw [c7b0] | (simp only [i64_w, i32_w]; rw [c7b0]) | skip)
      have H' := Aside0.mk H
      clear H
      go_wp2
      go_meet
      case rel => exact ⟨_, (decide ((l1.length : Int) > 60)), (by first | rfl | (simp; done) | (simp [*]; done)), H', ⟨by first | omega | exact Nat.le_refl _⟩, ⟨by (with_reducible repeat (first | refine blk_drewN ?_ _ | refine blk_drew ?_ | refine blk_alloc ?_ _)); exact BK262.out⟩, ⟨by repeat (first | (with_reducible first | exact HB.out | apply below_alloc | apply pw_below_drewN | apply below_drew1 | refine below_set ?_ GE262.out) | exact HB.out)⟩⟩
  case rest =>
    clear HC5
    try clear c1
    try clear p2
    try clear c3
    try clear c7
    try clear c7b0
    try clear c7b1
    obtain ⟨kq, x25_4, rfl, HA, HJ4, BK262, HB⟩ := hcut
    cases kq with
    | zero => exact absurd HA.out (by simp [watchmanlaw07_RankDoes.j0])
    | succ kj4 =>
      have H := HA.out
      clear HA
      simp only [watchmanlaw07_RankDoes.j0] at H
      by_cases c8 : x25_4 = true
      · subst c8
        have H1 : (some true) = some r := by rw [if_pos rfl] at H; exact H
        clear H
        have H := H1
        clear H1
        obtain rfl := Option.some.inj H
        go_wp2
        go_ret
        exact ⟨by first | rfl | (simp [errW_none, errW_some] <;> rfl) | (simp [*, errW_none, errW_some] <;> rfl), by repeat (first | (with_reducible first | exact HB.out | apply below_alloc | apply pw_below_drewN | apply below_drew1 | refine below_set ?_ GE262.out) | exact HB.out)⟩
      · replace c8 := Bool.eq_false_iff.mpr c8
        subst c8
        have H1 : ((watchmanref07_Own.f l0).bind fun t263 => ((rank_Sort.f l0).bind fun t266 => ((rank_Top.f a2 l0).bind fun t269 => ((rank_Place.f l0 a3_0 a3_1).bind fun bt272 => ((watchmanref07_Place.f kj4 t263 a3_0 a3_1).bind fun bt274 => ((rank_Merge.f l0 l1).bind fun t276 => ((watchmanref07_Sort.f kj4 t263).bind fun t279 => ((watchmanref07_Same.f kj4 t266 t279).bind fun t282 => (if t282 = true then ((watchmanref07_Top.f kj4 a2 t263).bind fun t283 => ((watchmanref07_Same.f kj4 t269 t283).bind fun t286 => (if t286 = true then (if bt272.1 = bt274.1 then (if (bt272.2 == bt274.2) = true then ((watchmanref07_Merge.f kj4 t263 l1).bind fun t287 => ((watchmanref07_Same.f kj4 t276 t287).bind fun t290 => (watchmanlaw07_RankDoes.j1 kj4 l0 l1 t263 t266 t269 t276 t290))) else (watchmanlaw07_RankDoes.j1 kj4 l0 l1 t263 t266 t269 t276 false)) else (watchmanlaw07_RankDoes.j1 kj4 l0 l1 t263 t266 t269 t276 false)) else (watchmanlaw07_RankDoes.j1 kj4 l0 l1 t263 t266 t269 t276 false)))) else (watchmanlaw07_RankDoes.j1 kj4 l0 l1 t263 t266 t269 t276 false)))))))))) = some r := by rw [if_neg (show ¬ (false = true) by decide)] at H; exact H
        clear H
        have H := H1
        clear H1
        replace H := Option.bind_eq_some_iff.mp H
        obtain ⟨t263, A90, H⟩ := H
        replace H : ((rank_Sort.f l0).bind fun t266 => ((rank_Top.f a2 l0).bind fun t269 => ((rank_Place.f l0 a3_0 a3_1).bind fun bt272 => ((watchmanref07_Place.f kj4 t263 a3_0 a3_1).bind fun bt274 => ((rank_Merge.f l0 l1).bind fun t276 => ((watchmanref07_Sort.f kj4 t263).bind fun t279 => ((watchmanref07_Same.f kj4 t266 t279).bind fun t282 => (if t282 = true then ((watchmanref07_Top.f kj4 a2 t263).bind fun t283 => ((watchmanref07_Same.f kj4 t269 t283).bind fun t286 => (if t286 = true then (if bt272.1 = bt274.1 then (if (bt272.2 == bt274.2) = true then ((watchmanref07_Merge.f kj4 t263 l1).bind fun t287 => ((watchmanref07_Same.f kj4 t276 t287).bind fun t290 => (watchmanlaw07_RankDoes.j1 kj4 l0 l1 t263 t266 t269 t276 t290))) else (watchmanlaw07_RankDoes.j1 kj4 l0 l1 t263 t266 t269 t276 false)) else (watchmanlaw07_RankDoes.j1 kj4 l0 l1 t263 t266 t269 t276 false)) else (watchmanlaw07_RankDoes.j1 kj4 l0 l1 t263 t266 t269 t276 false)))) else (watchmanlaw07_RankDoes.j1 kj4 l0 l1 t263 t266 t269 t276 false))))))))) = some r := H
        have A9 := Aside0.mk A90
        clear A90
        replace H := Option.bind_eq_some_iff.mp H
        obtain ⟨t266, A100, H⟩ := H
        replace H : ((rank_Top.f a2 l0).bind fun t269 => ((rank_Place.f l0 a3_0 a3_1).bind fun bt272 => ((watchmanref07_Place.f kj4 t263 a3_0 a3_1).bind fun bt274 => ((rank_Merge.f l0 l1).bind fun t276 => ((watchmanref07_Sort.f kj4 t263).bind fun t279 => ((watchmanref07_Same.f kj4 t266 t279).bind fun t282 => (if t282 = true then ((watchmanref07_Top.f kj4 a2 t263).bind fun t283 => ((watchmanref07_Same.f kj4 t269 t283).bind fun t286 => (if t286 = true then (if bt272.1 = bt274.1 then (if (bt272.2 == bt274.2) = true then ((watchmanref07_Merge.f kj4 t263 l1).bind fun t287 => ((watchmanref07_Same.f kj4 t276 t287).bind fun t290 => (watchmanlaw07_RankDoes.j1 kj4 l0 l1 t263 t266 t269 t276 t290))) else (watchmanlaw07_RankDoes.j1 kj4 l0 l1 t263 t266 t269 t276 false)) else (watchmanlaw07_RankDoes.j1 kj4 l0 l1 t263 t266 t269 t276 false)) else (watchmanlaw07_RankDoes.j1 kj4 l0 l1 t263 t266 t269 t276 false)))) else (watchmanlaw07_RankDoes.j1 kj4 l0 l1 t263 t266 t269 t276 false)))))))) = some r := H
        have A10 := Aside0.mk A100
        clear A100
        replace H := Option.bind_eq_some_iff.mp H
        obtain ⟨t269, A110, H⟩ := H
        replace H : ((rank_Place.f l0 a3_0 a3_1).bind fun bt272 => ((watchmanref07_Place.f kj4 t263 a3_0 a3_1).bind fun bt274 => ((rank_Merge.f l0 l1).bind fun t276 => ((watchmanref07_Sort.f kj4 t263).bind fun t279 => ((watchmanref07_Same.f kj4 t266 t279).bind fun t282 => (if t282 = true then ((watchmanref07_Top.f kj4 a2 t263).bind fun t283 => ((watchmanref07_Same.f kj4 t269 t283).bind fun t286 => (if t286 = true then (if bt272.1 = bt274.1 then (if (bt272.2 == bt274.2) = true then ((watchmanref07_Merge.f kj4 t263 l1).bind fun t287 => ((watchmanref07_Same.f kj4 t276 t287).bind fun t290 => (watchmanlaw07_RankDoes.j1 kj4 l0 l1 t263 t266 t269 t276 t290))) else (watchmanlaw07_RankDoes.j1 kj4 l0 l1 t263 t266 t269 t276 false)) else (watchmanlaw07_RankDoes.j1 kj4 l0 l1 t263 t266 t269 t276 false)) else (watchmanlaw07_RankDoes.j1 kj4 l0 l1 t263 t266 t269 t276 false)))) else (watchmanlaw07_RankDoes.j1 kj4 l0 l1 t263 t266 t269 t276 false))))))) = some r := H
        have A11 := Aside0.mk A110
        clear A110
        replace H := Option.bind_eq_some_iff.mp H
        obtain ⟨⟨t272, t273⟩, A120, H⟩ := H
        replace H : ((watchmanref07_Place.f kj4 t263 a3_0 a3_1).bind fun bt274 => ((rank_Merge.f l0 l1).bind fun t276 => ((watchmanref07_Sort.f kj4 t263).bind fun t279 => ((watchmanref07_Same.f kj4 t266 t279).bind fun t282 => (if t282 = true then ((watchmanref07_Top.f kj4 a2 t263).bind fun t283 => ((watchmanref07_Same.f kj4 t269 t283).bind fun t286 => (if t286 = true then (if t272 = bt274.1 then (if (t273 == bt274.2) = true then ((watchmanref07_Merge.f kj4 t263 l1).bind fun t287 => ((watchmanref07_Same.f kj4 t276 t287).bind fun t290 => (watchmanlaw07_RankDoes.j1 kj4 l0 l1 t263 t266 t269 t276 t290))) else (watchmanlaw07_RankDoes.j1 kj4 l0 l1 t263 t266 t269 t276 false)) else (watchmanlaw07_RankDoes.j1 kj4 l0 l1 t263 t266 t269 t276 false)) else (watchmanlaw07_RankDoes.j1 kj4 l0 l1 t263 t266 t269 t276 false)))) else (watchmanlaw07_RankDoes.j1 kj4 l0 l1 t263 t266 t269 t276 false)))))) = some r := H
        have A12 := Aside0.mk A120
        clear A120
        replace H := Option.bind_eq_some_iff.mp H
        obtain ⟨⟨t274, t275⟩, A130, H⟩ := H
        replace H : ((rank_Merge.f l0 l1).bind fun t276 => ((watchmanref07_Sort.f kj4 t263).bind fun t279 => ((watchmanref07_Same.f kj4 t266 t279).bind fun t282 => (if t282 = true then ((watchmanref07_Top.f kj4 a2 t263).bind fun t283 => ((watchmanref07_Same.f kj4 t269 t283).bind fun t286 => (if t286 = true then (if t272 = t274 then (if (t273 == t275) = true then ((watchmanref07_Merge.f kj4 t263 l1).bind fun t287 => ((watchmanref07_Same.f kj4 t276 t287).bind fun t290 => (watchmanlaw07_RankDoes.j1 kj4 l0 l1 t263 t266 t269 t276 t290))) else (watchmanlaw07_RankDoes.j1 kj4 l0 l1 t263 t266 t269 t276 false)) else (watchmanlaw07_RankDoes.j1 kj4 l0 l1 t263 t266 t269 t276 false)) else (watchmanlaw07_RankDoes.j1 kj4 l0 l1 t263 t266 t269 t276 false)))) else (watchmanlaw07_RankDoes.j1 kj4 l0 l1 t263 t266 t269 t276 false))))) = some r := H
        have A13 := Aside0.mk A130
        clear A130
        replace H := Option.bind_eq_some_iff.mp H
        obtain ⟨t276, A140, H⟩ := H
        replace H : ((watchmanref07_Sort.f kj4 t263).bind fun t279 => ((watchmanref07_Same.f kj4 t266 t279).bind fun t282 => (if t282 = true then ((watchmanref07_Top.f kj4 a2 t263).bind fun t283 => ((watchmanref07_Same.f kj4 t269 t283).bind fun t286 => (if t286 = true then (if t272 = t274 then (if (t273 == t275) = true then ((watchmanref07_Merge.f kj4 t263 l1).bind fun t287 => ((watchmanref07_Same.f kj4 t276 t287).bind fun t290 => (watchmanlaw07_RankDoes.j1 kj4 l0 l1 t263 t266 t269 t276 t290))) else (watchmanlaw07_RankDoes.j1 kj4 l0 l1 t263 t266 t269 t276 false)) else (watchmanlaw07_RankDoes.j1 kj4 l0 l1 t263 t266 t269 t276 false)) else (watchmanlaw07_RankDoes.j1 kj4 l0 l1 t263 t266 t269 t276 false)))) else (watchmanlaw07_RankDoes.j1 kj4 l0 l1 t263 t266 t269 t276 false)))) = some r := H
        have A14 := Aside0.mk A140
        clear A140
        have HC15 := Aside0.mk H
        clear H
        go_upto_region 9 with (first | ((with_reducible refine gate_callee (f := 8) rfl ?_); refine goesL_ (some 27) rfl rfl Try.func8 (by kernel_rfl) rfl #[.slice A0 l0.length c0] rfl (by (try simp only [List.map_toArray, List.map_cons, List.map_nil]); first | done | rfl | (simp only [List.length_drop, List.length_take]; rfl)) ?_; (with_reducible refine (watchmanref07_Own.calls _ _ l0 t263 _ ?side1 ?side2 A9.out).mono ?_); (case side1 => repeat (first | exact (Kd.C_below HR0.out HB.out) | (with_reducible refine Kd.C_alloc ?_ _) | (with_reducible refine Kd.C_drewN ?_ _) | (with_reducible refine Kd.C_drew ?_))); (case side2 => exact HC0.out); rintro e w16 ⟨v264, rfl, ho0, hb⟩; refine ⟨_, rfl, ?_⟩; have n0_ := Aside0.mk (Kd.R_lower ho0 (below_size (by repeat (first | (with_reducible first | exact HB.out | apply below_alloc | apply pw_below_drewN | apply below_drew1 | refine below_set ?_ GE262.out) | exact HB.out)))); have n1_ := Aside0.mk (blk_below (g := gb262) (o := .cells #[.int .i64 a3_0, .int .i64 a3_1] 24 (0, 0)) (by (with_reducible repeat (first | refine blk_drewN ?_ _ | refine blk_drew ?_ | refine blk_alloc ?_ _)); exact BK262.out) hb); have n2_ := Aside0.mk (below_step (by repeat (first | (with_reducible first | exact HB.out | apply below_alloc | apply pw_below_drewN | apply below_drew1 | refine below_set ?_ GE262.out) | exact HB.out)) hb); clear BK262; clear HB; have HO265 := n0_; have BK262 := n1_; have HB := n2_; clear n0_ n1_ n2_; (try clear hb); (try clear hb2); (try clear hk); (try clear hi); (try clear ho0)) | ((with_reducible refine gate_callee (f := 9) rfl ?_); refine goesL_ (some 29) rfl rfl Try.func9 (by kernel_rfl) rfl #[.slice A0 l0.length c0] rfl (by (try simp only [List.map_toArray, List.map_cons, List.map_nil]); first | done | rfl | (simp only [List.length_drop, List.length_take]; rfl)) ?_; (with_reducible refine (rank_Sort.calls _ _ l0 t266 _ ?side1 ?side2 A10.out).mono ?_); (case side1 => repeat (first | exact (Kd.C_below HR0.out HB.out) | (with_reducible refine Kd.C_alloc ?_ _) | (with_reducible refine Kd.C_drewN ?_ _) | (with_reducible refine Kd.C_drew ?_))); (case side2 => exact HC0.out); rintro e w17 ⟨v267, rfl, ho0, hb⟩; refine ⟨_, rfl, ?_⟩; have n0_ := Aside0.mk (Kd.R_elder' (by (with_reducible repeat (first | apply Kd.R_alloc | apply Kd.R_drewN | apply Kd.R_drew)); exact HO265.out) (Kd.R_base ho0) hb); have n1_ := Aside0.mk (Kd.R_lower (Kd.R_new' ho0 (Kd.R_lt (by (with_reducible repeat (first | apply Kd.R_alloc | apply Kd.R_drewN | apply Kd.R_drew)); exact HO265.out))) (below_size (by repeat (first | (with_reducible first | exact HB.out | apply below_alloc | apply pw_below_drewN | apply below_drew1 | refine below_set ?_ GE262.out) | exact HB.out)))); have n2_ := Aside0.mk (blk_below (g := gb262) (o := .cells #[.int .i64 a3_0, .int .i64 a3_1] 24 (0, 0)) (by (with_reducible repeat (first | refine blk_drewN ?_ _ | refine blk_drew ?_ | refine blk_alloc ?_ _)); exact BK262.out) hb); have n3_ := Aside0.mk (below_step (by repeat (first | (with_reducible first | exact HB.out | apply below_alloc | apply pw_below_drewN | apply below_drew1 | refine below_set ?_ GE262.out) | exact HB.out)) hb); clear HO265; clear BK262; clear HB; have HO265 := n0_; have HO268 := n1_; have BK262 := n2_; have HB := n3_; clear n0_ n1_ n2_ n3_; (try clear hb); (try clear hb2); (try clear hk); (try clear hi); (try clear ho0)) | ((with_reducible refine gate_callee (f := 10) rfl ?_); refine goesL_ (some 32) rfl rfl Try.func10 (by kernel_rfl) rfl #[.int .i64 a2, .slice A0 l0.length c0] rfl (by (try simp only [List.map_toArray, List.map_cons, List.map_nil]); first | done | rfl | (simp only [List.length_drop, List.length_take]; rfl)) ?_; (with_reducible refine (rank_Top.calls a2 _ _ l0 t269 _ ?side1 ?side2 A11.out).mono ?_); (case side1 => repeat (first | exact (Kd.C_below HR0.out HB.out) | (with_reducible refine Kd.C_alloc ?_ _) | (with_reducible refine Kd.C_drewN ?_ _) | (with_reducible refine Kd.C_drew ?_))); (case side2 => exact HC0.out); rintro e w18 ⟨v270, rfl, ho0, hb⟩; refine ⟨_, rfl, ?_⟩; have n0_ := Aside0.mk (Kd.R_elder' (by (with_reducible repeat (first | apply Kd.R_alloc | apply Kd.R_drewN | apply Kd.R_drew)); exact HO265.out) (Kd.R_base ho0) hb); have n1_ := Aside0.mk (Kd.R_elder' (by (with_reducible repeat (first | apply Kd.R_alloc | apply Kd.R_drewN | apply Kd.R_drew)); exact HO268.out) (Kd.R_base ho0) hb); have n2_ := Aside0.mk (Kd.R_lower (Kd.R_new' (Kd.R_new' ho0 (Kd.R_lt (by (with_reducible repeat (first | apply Kd.R_alloc | apply Kd.R_drewN | apply Kd.R_drew)); exact HO265.out))) (Kd.R_lt (by (with_reducible repeat (first | apply Kd.R_alloc | apply Kd.R_drewN | apply Kd.R_drew)); exact HO268.out))) (below_size (by repeat (first | (with_reducible first | exact HB.out | apply below_alloc | apply pw_below_drewN | apply below_drew1 | refine below_set ?_ GE262.out) | exact HB.out)))); have n3_ := Aside0.mk (blk_below (g := gb262) (o := .cells #[.int .i64 a3_0, .int .i64 a3_1] 24 (0, 0)) (by (with_reducible repeat (first | refine blk_drewN ?_ _ | refine blk_drew ?_ | refine blk_alloc ?_ _)); exact BK262.out) hb); have n4_ := Aside0.mk (below_step (by repeat (first | (with_reducible first | exact HB.out | apply below_alloc | apply pw_below_drewN | apply below_drew1 | refine below_set ?_ GE262.out) | exact HB.out)) hb); clear HO265; clear HO268; clear BK262; clear HB; have HO265 := n0_; have HO268 := n1_; have HO271 := n2_; have BK262 := n3_; have HB := n4_; clear n0_ n1_ n2_ n3_ n4_; (try clear hb); (try clear hb2); (try clear hk); (try clear hi); (try clear ho0); have hcz19_0 : w18.cell? ⟨gb262, 0, none⟩ = some (.int .i64 a3_0) := (blk_cell BK262.out 0).trans rfl; have hcz19_1 : w18.cell? ⟨gb262, 1, none⟩ = some (.int .i64 a3_1) := (blk_cell BK262.out 1).trans rfl; have hfz19_0 := blk_frozen BK262.out 0; have hfz19_1 := blk_frozen BK262.out 1) | ((with_reducible refine gate_callee (f := 11) rfl ?_); refine goesL_ (some 36) rfl rfl Try.func11 (by kernel_rfl) rfl #[.slice A0 l0.length c0, .agg #[.int .i64 a3_0, .int .i64 a3_1]] rfl (by (try simp only [List.map_toArray, List.map_cons, List.map_nil]); first | done | rfl | (simp only [List.length_drop, List.length_take]; rfl)) ?_; (with_reducible refine (rank_Place.calls _ _ l0 a3_0 a3_1 t272 t273 _ ?side1 ?side2 A12.out).mono ?_); (case side1 => repeat (first | exact (Kd.C_below HR0.out HB.out) | (with_reducible refine Kd.C_alloc ?_ _) | (with_reducible refine Kd.C_drewN ?_ _) | (with_reducible refine Kd.C_drew ?_))); (case side2 => exact HC0.out); rintro e w20 ⟨rfl, hb⟩; refine ⟨_, rfl, ?_⟩; have n0_ := Aside0.mk (Kd.R_below (by (with_reducible repeat (first | apply Kd.R_alloc | apply Kd.R_drewN | apply Kd.R_drew)); exact HO265.out) hb); have n1_ := Aside0.mk (Kd.R_below (by (with_reducible repeat (first | apply Kd.R_alloc | apply Kd.R_drewN | apply Kd.R_drew)); exact HO268.out) hb); have n2_ := Aside0.mk (Kd.R_below (by (with_reducible repeat (first | apply Kd.R_alloc | apply Kd.R_drewN | apply Kd.R_drew)); exact HO271.out) hb); have n3_ := Aside0.mk (blk_below (g := gb262) (o := .cells #[.int .i64 a3_0, .int .i64 a3_1] 24 (0, 0)) (by (with_reducible repeat (first | refine blk_drewN ?_ _ | refine blk_drew ?_ | refine blk_alloc ?_ _)); exact BK262.out) hb); have n4_ := Aside0.mk (below_step (by repeat (first | (with_reducible first | exact HB.out | apply below_alloc | apply pw_below_drewN | apply below_drew1 | refine below_set ?_ GE262.out) | exact HB.out)) hb); clear HO265; clear HO268; clear HO271; clear BK262; clear HB; have HO265 := n0_; have HO268 := n1_; have HO271 := n2_; have BK262 := n3_; have HB := n4_; clear n0_ n1_ n2_ n3_ n4_; (try clear hb); (try clear hb2); (try clear hk); (try clear hi); have hcz21_0 : w20.cell? ⟨gb262, 0, none⟩ = some (.int .i64 a3_0) := (blk_cell BK262.out 0).trans rfl; have hcz21_1 : w20.cell? ⟨gb262, 1, none⟩ = some (.int .i64 a3_1) := (blk_cell BK262.out 1).trans rfl; have hfz21_0 := blk_frozen BK262.out 0; have hfz21_1 := blk_frozen BK262.out 1; obtain ⟨Ao22, co22, eo22⟩ := Kd.R_slice HO265.out; subst eo22) | ((with_reducible refine gate_callee (f := 12) rfl ?_); refine goesL_ (some 42) rfl rfl Try.func12 (by kernel_rfl) rfl #[.slice Ao22 t263.length co22, .agg #[.int .i64 a3_0, .int .i64 a3_1]] rfl (by (try simp only [List.map_toArray, List.map_cons, List.map_nil]); first | done | rfl | (simp only [List.length_drop, List.length_take]; rfl)) ?_; (with_reducible refine (watchmanref07_Place.calls kj4 _ _ t263 a3_0 a3_1 t274 t275 _ ?side1 ?side2 A13.out).mono ?_); (case side1 => repeat (first | exact (Kd.R_reads' HO265.out).2.2 | (with_reducible refine Kd.C_alloc ?_ _) | (with_reducible refine Kd.C_drewN ?_ _) | (with_reducible refine Kd.C_drew ?_))); (case side2 => exact (Kd.R_reads' HO265.out).2.1); rintro e w23 ⟨rfl, hb⟩; refine ⟨_, rfl, ?_⟩; have n0_ := Aside0.mk (Kd.R_below (by (with_reducible repeat (first | apply Kd.R_alloc | apply Kd.R_drewN | apply Kd.R_drew)); exact HO265.out) hb); have n1_ := Aside0.mk (Kd.R_below (by (with_reducible repeat (first | apply Kd.R_alloc | apply Kd.R_drewN | apply Kd.R_drew)); exact HO268.out) hb); have n2_ := Aside0.mk (Kd.R_below (by (with_reducible repeat (first | apply Kd.R_alloc | apply Kd.R_drewN | apply Kd.R_drew)); exact HO271.out) hb); have n3_ := Aside0.mk (blk_below (g := gb262) (o := .cells #[.int .i64 a3_0, .int .i64 a3_1] 24 (0, 0)) (by (with_reducible repeat (first | refine blk_drewN ?_ _ | refine blk_drew ?_ | refine blk_alloc ?_ _)); exact BK262.out) hb); have n4_ := Aside0.mk (below_step (by repeat (first | (with_reducible first | exact HB.out | apply below_alloc | apply pw_below_drewN | apply below_drew1 | refine below_set ?_ GE262.out) | exact HB.out)) hb); clear HO265; clear HO268; clear HO271; clear BK262; clear HB; have HO265 := n0_; have HO268 := n1_; have HO271 := n2_; have BK262 := n3_; have HB := n4_; clear n0_ n1_ n2_ n3_ n4_; (try clear hb); (try clear hb2); (try clear hk); (try clear hi)) | ((with_reducible refine gate_callee (f := 13) rfl ?_); refine goesL_ (some 47) rfl rfl Try.func13 (by kernel_rfl) rfl #[.slice A0 l0.length c0, .slice A1 l1.length c1] rfl (by (try simp only [List.map_toArray, List.map_cons, List.map_nil]); first | done | rfl | (simp only [List.length_drop, List.length_take]; rfl)) ?_; (with_reducible refine (rank_Merge.calls _ _ l0 _ _ l1 t276 _ ?side1 ?side2 ?side3 ?side4 A14.out).mono ?_); (case side1 => repeat (first | exact (Kd.C_below HR0.out HB.out) | (with_reducible refine Kd.C_alloc ?_ _) | (with_reducible refine Kd.C_drewN ?_ _) | (with_reducible refine Kd.C_drew ?_))); (case side2 => exact HC0.out); (case side3 => repeat (first | exact (Kd.C_below HR1.out HB.out) | (with_reducible refine Kd.C_alloc ?_ _) | (with_reducible refine Kd.C_drewN ?_ _) | (with_reducible refine Kd.C_drew ?_))); (case side4 => exact HC1.out); rintro e w24 ⟨v277, rfl, ho0, hb⟩; refine ⟨_, rfl, ?_⟩; have n0_ := Aside0.mk (Kd.R_elder' (by (with_reducible repeat (first | apply Kd.R_alloc | apply Kd.R_drewN | apply Kd.R_drew)); exact HO265.out) (Kd.R_base ho0) hb); have n1_ := Aside0.mk (Kd.R_elder' (by (with_reducible repeat (first | apply Kd.R_alloc | apply Kd.R_drewN | apply Kd.R_drew)); exact HO268.out) (Kd.R_base ho0) hb); have n2_ := Aside0.mk (Kd.R_elder' (by (with_reducible repeat (first | apply Kd.R_alloc | apply Kd.R_drewN | apply Kd.R_drew)); exact HO271.out) (Kd.R_base ho0) hb); have n3_ := Aside0.mk (Kd.R_lower (Kd.R_new' (Kd.R_new' (Kd.R_new' ho0 (Kd.R_lt (by (with_reducible repeat (first | apply Kd.R_alloc | apply Kd.R_drewN | apply Kd.R_drew)); exact HO265.out))) (Kd.R_lt (by (with_reducible repeat (first | apply Kd.R_alloc | apply Kd.R_drewN | apply Kd.R_drew)); exact HO268.out))) (Kd.R_lt (by (with_reducible repeat (first | apply Kd.R_alloc | apply Kd.R_drewN | apply Kd.R_drew)); exact HO271.out))) (below_size (by repeat (first | (with_reducible first | exact HB.out | apply below_alloc | apply pw_below_drewN | apply below_drew1 | refine below_set ?_ GE262.out) | exact HB.out)))); have n4_ := Aside0.mk (blk_below (g := gb262) (o := .cells #[.int .i64 a3_0, .int .i64 a3_1] 24 (0, 0)) (by (with_reducible repeat (first | refine blk_drewN ?_ _ | refine blk_drew ?_ | refine blk_alloc ?_ _)); exact BK262.out) hb); have n5_ := Aside0.mk (below_step (by repeat (first | (with_reducible first | exact HB.out | apply below_alloc | apply pw_below_drewN | apply below_drew1 | refine below_set ?_ GE262.out) | exact HB.out)) hb); clear HO265; clear HO268; clear HO271; clear BK262; clear HB; have HO265 := n0_; have HO268 := n1_; have HO271 := n2_; have HO278 := n3_; have BK262 := n4_; have HB := n5_; clear n0_ n1_ n2_ n3_ n4_ n5_; (try clear hb); (try clear hb2); (try clear hk); (try clear hi); (try clear ho0)))
        (try simp only [Act.put, List.setIfInBounds_toArray, List.set_cons_zero, List.set_cons_succ])
        go_cut [17] (fun v17 wc => ∃ (kq : Nat) (x17_14 : Bool), v17 = .bool x17_14 ∧ Aside0 (watchmanlaw07_RankDoes.j1 kq l0 l1 t263 t266 t269 t276 x17_14 = some r) ∧ Aside0 (kq ≤ kj4) ∧ Aside0 (Kd.R k34 34 wc w.heap.size (fun k_ => some k_ ≠ (v267 : Value).ownBlock ∧ some k_ ≠ (v270 : Value).ownBlock ∧ some k_ ≠ (v277 : Value).ownBlock) (.slice Ao22 t263.length co22) t263) ∧ Aside0 (Kd.R k34 34 wc w.heap.size (fun k_ => some k_ ≠ ((.slice Ao22 t263.length co22) : Value).ownBlock ∧ some k_ ≠ (v270 : Value).ownBlock ∧ some k_ ≠ (v277 : Value).ownBlock) v267 t266) ∧ Aside0 (Kd.R k34 34 wc w.heap.size (fun k_ => some k_ ≠ ((.slice Ao22 t263.length co22) : Value).ownBlock ∧ some k_ ≠ (v267 : Value).ownBlock ∧ some k_ ≠ (v277 : Value).ownBlock) v270 t269) ∧ Aside0 (Kd.R k34 34 wc w.heap.size (fun k_ => some k_ ≠ ((.slice Ao22 t263.length co22) : Value).ownBlock ∧ some k_ ≠ (v267 : Value).ownBlock ∧ some k_ ≠ (v270 : Value).ownBlock) v277 t276) ∧ Aside0 (wc.heap[gb262]? = some (.cells #[.int .i64 a3_0, .int .i64 a3_1] 24 (0, 0))) ∧ Aside0 (Below w.heap.size w wc))
        case first =>
          have H := HC15.out
          clear HC15
          replace H := Option.bind_eq_some_iff.mp H
          obtain ⟨t279, A250, H⟩ := H
          replace H : ((watchmanref07_Same.f kj4 t266 t279).bind fun t282 => (if t282 = true then ((watchmanref07_Top.f kj4 a2 t263).bind fun t283 => ((watchmanref07_Same.f kj4 t269 t283).bind fun t286 => (if t286 = true then (if t272 = t274 then (if (t273 == t275) = true then ((watchmanref07_Merge.f kj4 t263 l1).bind fun t287 => ((watchmanref07_Same.f kj4 t276 t287).bind fun t290 => (watchmanlaw07_RankDoes.j1 kj4 l0 l1 t263 t266 t269 t276 t290))) else (watchmanlaw07_RankDoes.j1 kj4 l0 l1 t263 t266 t269 t276 false)) else (watchmanlaw07_RankDoes.j1 kj4 l0 l1 t263 t266 t269 t276 false)) else (watchmanlaw07_RankDoes.j1 kj4 l0 l1 t263 t266 t269 t276 false)))) else (watchmanlaw07_RankDoes.j1 kj4 l0 l1 t263 t266 t269 t276 false))) = some r := H
          have A25 := Aside0.mk A250
          clear A250
          replace H := Option.bind_eq_some_iff.mp H
          obtain ⟨t282, A260, H⟩ := H
          replace H : (if t282 = true then ((watchmanref07_Top.f kj4 a2 t263).bind fun t283 => ((watchmanref07_Same.f kj4 t269 t283).bind fun t286 => (if t286 = true then (if t272 = t274 then (if (t273 == t275) = true then ((watchmanref07_Merge.f kj4 t263 l1).bind fun t287 => ((watchmanref07_Same.f kj4 t276 t287).bind fun t290 => (watchmanlaw07_RankDoes.j1 kj4 l0 l1 t263 t266 t269 t276 t290))) else (watchmanlaw07_RankDoes.j1 kj4 l0 l1 t263 t266 t269 t276 false)) else (watchmanlaw07_RankDoes.j1 kj4 l0 l1 t263 t266 t269 t276 false)) else (watchmanlaw07_RankDoes.j1 kj4 l0 l1 t263 t266 t269 t276 false)))) else (watchmanlaw07_RankDoes.j1 kj4 l0 l1 t263 t266 t269 t276 false)) = some r := H
          have A26 := Aside0.mk A260
          clear A260
          by_cases c27 : t282 = true
          · subst c27
            have H1 : ((watchmanref07_Top.f kj4 a2 t263).bind fun t283 => ((watchmanref07_Same.f kj4 t269 t283).bind fun t286 => (if t286 = true then (if t272 = t274 then (if (t273 == t275) = true then ((watchmanref07_Merge.f kj4 t263 l1).bind fun t287 => ((watchmanref07_Same.f kj4 t276 t287).bind fun t290 => (watchmanlaw07_RankDoes.j1 kj4 l0 l1 t263 t266 t269 t276 t290))) else (watchmanlaw07_RankDoes.j1 kj4 l0 l1 t263 t266 t269 t276 false)) else (watchmanlaw07_RankDoes.j1 kj4 l0 l1 t263 t266 t269 t276 false)) else (watchmanlaw07_RankDoes.j1 kj4 l0 l1 t263 t266 t269 t276 false)))) = some r := by rw [if_pos rfl] at H; exact H
            clear H
            have H := H1
            clear H1
            replace H := Option.bind_eq_some_iff.mp H
            obtain ⟨t283, A280, H⟩ := H
            replace H : ((watchmanref07_Same.f kj4 t269 t283).bind fun t286 => (if t286 = true then (if t272 = t274 then (if (t273 == t275) = true then ((watchmanref07_Merge.f kj4 t263 l1).bind fun t287 => ((watchmanref07_Same.f kj4 t276 t287).bind fun t290 => (watchmanlaw07_RankDoes.j1 kj4 l0 l1 t263 t266 t269 t276 t290))) else (watchmanlaw07_RankDoes.j1 kj4 l0 l1 t263 t266 t269 t276 false)) else (watchmanlaw07_RankDoes.j1 kj4 l0 l1 t263 t266 t269 t276 false)) else (watchmanlaw07_RankDoes.j1 kj4 l0 l1 t263 t266 t269 t276 false))) = some r := H
            have A28 := Aside0.mk A280
            clear A280
            replace H := Option.bind_eq_some_iff.mp H
            obtain ⟨t286, A290, H⟩ := H
            replace H : (if t286 = true then (if t272 = t274 then (if (t273 == t275) = true then ((watchmanref07_Merge.f kj4 t263 l1).bind fun t287 => ((watchmanref07_Same.f kj4 t276 t287).bind fun t290 => (watchmanlaw07_RankDoes.j1 kj4 l0 l1 t263 t266 t269 t276 t290))) else (watchmanlaw07_RankDoes.j1 kj4 l0 l1 t263 t266 t269 t276 false)) else (watchmanlaw07_RankDoes.j1 kj4 l0 l1 t263 t266 t269 t276 false)) else (watchmanlaw07_RankDoes.j1 kj4 l0 l1 t263 t266 t269 t276 false)) = some r := H
            have A29 := Aside0.mk A290
            clear A290
            by_cases c30 : t286 = true
            · subst c30
              have H1 : (if t272 = t274 then (if (t273 == t275) = true then ((watchmanref07_Merge.f kj4 t263 l1).bind fun t287 => ((watchmanref07_Same.f kj4 t276 t287).bind fun t290 => (watchmanlaw07_RankDoes.j1 kj4 l0 l1 t263 t266 t269 t276 t290))) else (watchmanlaw07_RankDoes.j1 kj4 l0 l1 t263 t266 t269 t276 false)) else (watchmanlaw07_RankDoes.j1 kj4 l0 l1 t263 t266 t269 t276 false)) = some r := by rw [if_pos rfl] at H; exact H
              clear H
              have H := H1
              clear H1
              by_cases c31 : t272 = t274
              · rw [if_pos c31] at H
                have c31b0 : (t272 == t274) = true := beq_iff_eq.mpr c31
                have c31b1 : (t272 != t274) = false := bne_eq_false_iff_eq.mpr c31
                clear c31
                (first | rw [c31b0] | (simp only [i64_w, i32_w]; rw [c31b0]) | skip)
                by_cases c32 : (t273 == t275) = true
                · rw [if_pos c32] at H
                  have c32b0 : (t273 == t275) = true := c32
                  (try (have c32b1 : decide (t273 = t275) = true := by simpa using c32))
                  (try (have c32b2 : (t273 == t275) = true := by simpa using c32))
                  clear c32
                  replace H := Option.bind_eq_some_iff.mp H
                  obtain ⟨t287, A330, H⟩ := H
                  replace H : ((watchmanref07_Same.f kj4 t276 t287).bind fun t290 => (watchmanlaw07_RankDoes.j1 kj4 l0 l1 t263 t266 t269 t276 t290)) = some r := H
                  have A33 := Aside0.mk A330
                  clear A330
                  replace H := Option.bind_eq_some_iff.mp H
                  obtain ⟨t290, A340, H⟩ := H
                  replace H : (watchmanlaw07_RankDoes.j1 kj4 l0 l1 t263 t266 t269 t276 t290) = some r := H
                  have A34 := Aside0.mk A340
                  clear A340
                  have H' := Aside0.mk H
                  clear H
                  go_wp2_with (first | ((with_reducible refine gate_callee (f := 15) rfl ?_); refine goesL_ (some 50) rfl rfl Try.func15 (by kernel_rfl) rfl #[.slice Ao22 t263.length co22] rfl (by (try simp only [List.map_toArray, List.map_cons, List.map_nil]); first | done | rfl | (simp only [List.length_drop, List.length_take]; rfl)) ?_; (with_reducible refine (watchmanref07_Sort.calls kj4 _ _ t263 t279 _ ?side1 ?side2 A25.out).mono ?_); (case side1 => repeat (first | exact (Kd.R_reads' HO265.out).2.2 | (with_reducible refine Kd.C_alloc ?_ _) | (with_reducible refine Kd.C_drewN ?_ _) | (with_reducible refine Kd.C_drew ?_))); (case side2 => exact (Kd.R_reads' HO265.out).2.1); rintro e w35 ⟨v280, rfl, ho0, hb⟩; refine ⟨_, rfl, ?_⟩; have n0_ := Aside0.mk (Kd.R_elder' (by (with_reducible repeat (first | apply Kd.R_alloc | apply Kd.R_drewN | apply Kd.R_drew)); exact HO265.out) (Kd.R_base ho0) hb); have n1_ := Aside0.mk (Kd.R_elder' (by (with_reducible repeat (first | apply Kd.R_alloc | apply Kd.R_drewN | apply Kd.R_drew)); exact HO268.out) (Kd.R_base ho0) hb); have n2_ := Aside0.mk (Kd.R_elder' (by (with_reducible repeat (first | apply Kd.R_alloc | apply Kd.R_drewN | apply Kd.R_drew)); exact HO271.out) (Kd.R_base ho0) hb); have n3_ := Aside0.mk (Kd.R_elder' (by (with_reducible repeat (first | apply Kd.R_alloc | apply Kd.R_drewN | apply Kd.R_drew)); exact HO278.out) (Kd.R_base ho0) hb); have n4_ := Aside0.mk (Kd.R_lower (Kd.R_new' (Kd.R_new' (Kd.R_new' (Kd.R_new' ho0 (Kd.R_lt (by (with_reducible repeat (first | apply Kd.R_alloc | apply Kd.R_drewN | apply Kd.R_drew)); exact HO265.out))) (Kd.R_lt (by (with_reducible repeat (first | apply Kd.R_alloc | apply Kd.R_drewN | apply Kd.R_drew)); exact HO268.out))) (Kd.R_lt (by (with_reducible repeat (first | apply Kd.R_alloc | apply Kd.R_drewN | apply Kd.R_drew)); exact HO271.out))) (Kd.R_lt (by (with_reducible repeat (first | apply Kd.R_alloc | apply Kd.R_drewN | apply Kd.R_drew)); exact HO278.out))) (below_size (by repeat (first | (with_reducible first | exact HB.out | apply below_alloc | apply pw_below_drewN | apply below_drew1 | refine below_set ?_ GE262.out) | exact HB.out)))); have n5_ := Aside0.mk (blk_below (g := gb262) (o := .cells #[.int .i64 a3_0, .int .i64 a3_1] 24 (0, 0)) (by (with_reducible repeat (first | refine blk_drewN ?_ _ | refine blk_drew ?_ | refine blk_alloc ?_ _)); exact BK262.out) hb); have n6_ := Aside0.mk (below_step (by repeat (first | (with_reducible first | exact HB.out | apply below_alloc | apply pw_below_drewN | apply below_drew1 | refine below_set ?_ GE262.out) | exact HB.out)) hb); clear HO265; clear HO268; clear HO271; clear HO278; clear BK262; clear HB; have HO265 := n0_; have HO268 := n1_; have HO271 := n2_; have HO278 := n3_; have HO281 := n4_; have BK262 := n5_; have HB := n6_; clear n0_ n1_ n2_ n3_ n4_ n5_ n6_; (try clear hb); (try clear hb2); (try clear hk); (try clear hi); (try clear ho0); obtain ⟨Ao36, co36, eo36⟩ := Kd.R_slice HO268.out; subst eo36; obtain ⟨Ao37, co37, eo37⟩ := Kd.R_slice HO281.out; subst eo37) | ((with_reducible refine gate_callee (f := 14) rfl ?_); refine goesL_ (some 51) rfl rfl Try.func14 (by kernel_rfl) rfl #[.slice Ao36 t266.length co36, .slice Ao37 t279.length co37] rfl (by (try simp only [List.map_toArray, List.map_cons, List.map_nil]); first | done | rfl | (simp only [List.length_drop, List.length_take]; rfl)) ?_; (with_reducible refine (watchmanref07_Same.calls kj4 _ _ t266 _ _ t279 true _ ?side1 ?side2 ?side3 ?side4 A26.out).mono ?_); (case side1 => repeat (first | exact (Kd.R_reads' HO268.out).2.2 | (with_reducible refine Kd.C_alloc ?_ _) | (with_reducible refine Kd.C_drewN ?_ _) | (with_reducible refine Kd.C_drew ?_))); (case side2 => exact (Kd.R_reads' HO268.out).2.1); (case side3 => repeat (first | exact (Kd.R_reads' HO281.out).2.2 | (with_reducible refine Kd.C_alloc ?_ _) | (with_reducible refine Kd.C_drewN ?_ _) | (with_reducible refine Kd.C_drew ?_))); (case side4 => exact (Kd.R_reads' HO281.out).2.1); rintro e w' ⟨rfl, ⟨nd, rfl⟩⟩; refine ⟨_, rfl, ?_⟩) | (go_at_call 16; (with_reducible refine (watchmanref07_Top.calls kj4 a2 _ _ t263 t283 _ ?side1 ?side2 A28.out).mono ?_); (case side1 => repeat (first | exact (Kd.R_reads' HO265.out).2.2 | (with_reducible refine Kd.C_alloc ?_ _) | (with_reducible refine Kd.C_drewN ?_ _) | (with_reducible refine Kd.C_drew ?_))); (case side2 => exact (Kd.R_reads' HO265.out).2.1); rintro e w38 ⟨v284, rfl, ho0, hb⟩; have n0_ := Aside0.mk (Kd.R_elder' (by (with_reducible repeat (first | apply Kd.R_alloc | apply Kd.R_drewN | apply Kd.R_drew)); exact HO265.out) (Kd.R_base ho0) hb); have n1_ := Aside0.mk (Kd.R_elder' (by (with_reducible repeat (first | apply Kd.R_alloc | apply Kd.R_drewN | apply Kd.R_drew)); exact HO268.out) (Kd.R_base ho0) hb); have n2_ := Aside0.mk (Kd.R_elder' (by (with_reducible repeat (first | apply Kd.R_alloc | apply Kd.R_drewN | apply Kd.R_drew)); exact HO271.out) (Kd.R_base ho0) hb); have n3_ := Aside0.mk (Kd.R_elder' (by (with_reducible repeat (first | apply Kd.R_alloc | apply Kd.R_drewN | apply Kd.R_drew)); exact HO278.out) (Kd.R_base ho0) hb); have n4_ := Aside0.mk (Kd.R_elder' (by (with_reducible repeat (first | apply Kd.R_alloc | apply Kd.R_drewN | apply Kd.R_drew)); exact HO281.out) (Kd.R_base ho0) hb); have n5_ := Aside0.mk (Kd.R_lower (Kd.R_new' (Kd.R_new' (Kd.R_new' (Kd.R_new' (Kd.R_new' ho0 (Kd.R_lt (by (with_reducible repeat (first | apply Kd.R_alloc | apply Kd.R_drewN | apply Kd.R_drew)); exact HO265.out))) (Kd.R_lt (by (with_reducible repeat (first | apply Kd.R_alloc | apply Kd.R_drewN | apply Kd.R_drew)); exact HO268.out))) (Kd.R_lt (by (with_reducible repeat (first | apply Kd.R_alloc | apply Kd.R_drewN | apply Kd.R_drew)); exact HO271.out))) (Kd.R_lt (by (with_reducible repeat (first | apply Kd.R_alloc | apply Kd.R_drewN | apply Kd.R_drew)); exact HO278.out))) (Kd.R_lt (by (with_reducible repeat (first | apply Kd.R_alloc | apply Kd.R_drewN | apply Kd.R_drew)); exact HO281.out))) (below_size (by repeat (first | (with_reducible first | exact HB.out | apply below_alloc | apply pw_below_drewN | apply below_drew1 | refine below_set ?_ GE262.out) | exact HB.out)))); have n6_ := Aside0.mk (blk_below (g := gb262) (o := .cells #[.int .i64 a3_0, .int .i64 a3_1] 24 (0, 0)) (by (with_reducible repeat (first | refine blk_drewN ?_ _ | refine blk_drew ?_ | refine blk_alloc ?_ _)); exact BK262.out) hb); have n7_ := Aside0.mk (below_step (by repeat (first | (with_reducible first | exact HB.out | apply below_alloc | apply pw_below_drewN | apply below_drew1 | refine below_set ?_ GE262.out) | exact HB.out)) hb); clear HO265; clear HO268; clear HO271; clear HO278; clear HO281; clear BK262; clear HB; have HO265 := n0_; have HO268 := n1_; have HO271 := n2_; have HO278 := n3_; have HO281 := n4_; have HO285 := n5_; have BK262 := n6_; have HB := n7_; clear n0_ n1_ n2_ n3_ n4_ n5_ n6_ n7_; (try clear hb); (try clear hb2); (try clear hk); (try clear hi); (try clear ho0); obtain ⟨Ao39, co39, eo39⟩ := Kd.R_slice HO271.out; subst eo39; obtain ⟨Ao40, co40, eo40⟩ := Kd.R_slice HO285.out; subst eo40) | (go_at_call 14; (with_reducible refine (watchmanref07_Same.calls kj4 _ _ t269 _ _ t283 true _ ?side1 ?side2 ?side3 ?side4 A29.out).mono ?_); (case side1 => repeat (first | exact (Kd.R_reads' HO271.out).2.2 | (with_reducible refine Kd.C_alloc ?_ _) | (with_reducible refine Kd.C_drewN ?_ _) | (with_reducible refine Kd.C_drew ?_))); (case side2 => exact (Kd.R_reads' HO271.out).2.1); (case side3 => repeat (first | exact (Kd.R_reads' HO285.out).2.2 | (with_reducible refine Kd.C_alloc ?_ _) | (with_reducible refine Kd.C_drewN ?_ _) | (with_reducible refine Kd.C_drew ?_))); (case side4 => exact (Kd.R_reads' HO285.out).2.1); rintro e w' ⟨rfl, ⟨nd, rfl⟩⟩) | (go_at_call 17; (with_reducible refine (watchmanref07_Merge.calls kj4 _ _ t263 _ _ l1 t287 _ ?side1 ?side2 ?side3 ?side4 A33.out).mono ?_); (case side1 => repeat (first | exact (Kd.R_reads' HO265.out).2.2 | (with_reducible refine Kd.C_alloc ?_ _) | (with_reducible refine Kd.C_drewN ?_ _) | (with_reducible refine Kd.C_drew ?_))); (case side2 => exact (Kd.R_reads' HO265.out).2.1); (case side3 => repeat (first | exact (Kd.C_below HR1.out (by repeat (first | (with_reducible first | exact HB.out | apply below_alloc | apply pw_below_drewN | apply below_drew1 | refine below_set ?_ GE262.out) | exact HB.out))) | (with_reducible refine Kd.C_alloc ?_ _) | (with_reducible refine Kd.C_drewN ?_ _) | (with_reducible refine Kd.C_drew ?_))); (case side4 => exact HC1.out); rintro e w41 ⟨v288, rfl, ho0, hb⟩; have n0_ := Aside0.mk (Kd.R_elder' (by (with_reducible repeat (first | apply Kd.R_alloc | apply Kd.R_drewN | apply Kd.R_drew)); exact HO265.out) (Kd.R_base ho0) hb); have n1_ := Aside0.mk (Kd.R_elder' (by (with_reducible repeat (first | apply Kd.R_alloc | apply Kd.R_drewN | apply Kd.R_drew)); exact HO268.out) (Kd.R_base ho0) hb); have n2_ := Aside0.mk (Kd.R_elder' (by (with_reducible repeat (first | apply Kd.R_alloc | apply Kd.R_drewN | apply Kd.R_drew)); exact HO271.out) (Kd.R_base ho0) hb); have n3_ := Aside0.mk (Kd.R_elder' (by (with_reducible repeat (first | apply Kd.R_alloc | apply Kd.R_drewN | apply Kd.R_drew)); exact HO278.out) (Kd.R_base ho0) hb); have n4_ := Aside0.mk (Kd.R_elder' (by (with_reducible repeat (first | apply Kd.R_alloc | apply Kd.R_drewN | apply Kd.R_drew)); exact HO281.out) (Kd.R_base ho0) hb); have n5_ := Aside0.mk (Kd.R_elder' (by (with_reducible repeat (first | apply Kd.R_alloc | apply Kd.R_drewN | apply Kd.R_drew)); exact HO285.out) (Kd.R_base ho0) hb); have n6_ := Aside0.mk (Kd.R_lower (Kd.R_new' (Kd.R_new' (Kd.R_new' (Kd.R_new' (Kd.R_new' (Kd.R_new' ho0 (Kd.R_lt (by (with_reducible repeat (first | apply Kd.R_alloc | apply Kd.R_drewN | apply Kd.R_drew)); exact HO265.out))) (Kd.R_lt (by (with_reducible repeat (first | apply Kd.R_alloc | apply Kd.R_drewN | apply Kd.R_drew)); exact HO268.out))) (Kd.R_lt (by (with_reducible repeat (first | apply Kd.R_alloc | apply Kd.R_drewN | apply Kd.R_drew)); exact HO271.out))) (Kd.R_lt (by (with_reducible repeat (first | apply Kd.R_alloc | apply Kd.R_drewN | apply Kd.R_drew)); exact HO278.out))) (Kd.R_lt (by (with_reducible repeat (first | apply Kd.R_alloc | apply Kd.R_drewN | apply Kd.R_drew)); exact HO281.out))) (Kd.R_lt (by (with_reducible repeat (first | apply Kd.R_alloc | apply Kd.R_drewN | apply Kd.R_drew)); exact HO285.out))) (below_size (by repeat (first | (with_reducible first | exact HB.out | apply below_alloc | apply pw_below_drewN | apply below_drew1 | refine below_set ?_ GE262.out) | exact HB.out)))); have n7_ := Aside0.mk (blk_below (g := gb262) (o := .cells #[.int .i64 a3_0, .int .i64 a3_1] 24 (0, 0)) (by (with_reducible repeat (first | refine blk_drewN ?_ _ | refine blk_drew ?_ | refine blk_alloc ?_ _)); exact BK262.out) hb); have n8_ := Aside0.mk (below_step (by repeat (first | (with_reducible first | exact HB.out | apply below_alloc | apply pw_below_drewN | apply below_drew1 | refine below_set ?_ GE262.out) | exact HB.out)) hb); clear HO265; clear HO268; clear HO271; clear HO278; clear HO281; clear HO285; clear BK262; clear HB; have HO265 := n0_; have HO268 := n1_; have HO271 := n2_; have HO278 := n3_; have HO281 := n4_; have HO285 := n5_; have HO289 := n6_; have BK262 := n7_; have HB := n8_; clear n0_ n1_ n2_ n3_ n4_ n5_ n6_ n7_ n8_; (try clear hb); (try clear hb2); (try clear hk); (try clear hi); (try clear ho0); obtain ⟨Ao42, co42, eo42⟩ := Kd.R_slice HO278.out; subst eo42; obtain ⟨Ao43, co43, eo43⟩ := Kd.R_slice HO289.out; subst eo43) | (go_at_call 14; (with_reducible refine (watchmanref07_Same.calls kj4 _ _ t276 _ _ t287 t290 _ ?side1 ?side2 ?side3 ?side4 A34.out).mono ?_); (case side1 => repeat (first | exact (Kd.R_reads' HO278.out).2.2 | (with_reducible refine Kd.C_alloc ?_ _) | (with_reducible refine Kd.C_drewN ?_ _) | (with_reducible refine Kd.C_drew ?_))); (case side2 => exact (Kd.R_reads' HO278.out).2.1); (case side3 => repeat (first | exact (Kd.R_reads' HO289.out).2.2 | (with_reducible refine Kd.C_alloc ?_ _) | (with_reducible refine Kd.C_drewN ?_ _) | (with_reducible refine Kd.C_drew ?_))); (case side4 => exact (Kd.R_reads' HO289.out).2.1); rintro e w' ⟨rfl, ⟨nd, rfl⟩⟩))
                  go_meet
                  case rel => exact ⟨_, (t290), (by first | rfl | (simp; done) | (simp [*]; done)), H', ⟨by have := HJ4.out; first | omega | exact Nat.le_refl _⟩, ⟨by (with_reducible repeat (first | apply Kd.R_alloc | apply Kd.R_drewN | apply Kd.R_drew)); exact Kd.R_mono HO265.out (fun _ hk => ⟨hk.1.1.1.1.1.2, ⟨hk.1.1.1.1.2, hk.1.1.1.2⟩⟩)⟩, ⟨by (with_reducible repeat (first | apply Kd.R_alloc | apply Kd.R_drewN | apply Kd.R_drew)); exact Kd.R_mono HO268.out (fun _ hk => ⟨hk.1.1.1.1.1.2, ⟨hk.1.1.1.1.2, hk.1.1.1.2⟩⟩)⟩, ⟨by (with_reducible repeat (first | apply Kd.R_alloc | apply Kd.R_drewN | apply Kd.R_drew)); exact Kd.R_mono HO271.out (fun _ hk => ⟨hk.1.1.1.1.1.2, ⟨hk.1.1.1.1.2, hk.1.1.1.2⟩⟩)⟩, ⟨by (with_reducible repeat (first | apply Kd.R_alloc | apply Kd.R_drewN | apply Kd.R_drew)); exact Kd.R_mono HO278.out (fun _ hk => ⟨hk.1.1.1.1.1.2, ⟨hk.1.1.1.1.2, hk.1.1.1.2⟩⟩)⟩, ⟨by (with_reducible repeat (first | refine blk_drewN ?_ _ | refine blk_drew ?_ | refine blk_alloc ?_ _)); exact BK262.out⟩, ⟨by repeat (first | (with_reducible first | exact HB.out | apply below_alloc | apply pw_below_drewN | apply below_drew1 | refine below_set ?_ GE262.out) | exact HB.out)⟩⟩
                · rw [if_neg c32] at H
                  have c32b0 : (t273 == t275) = false := by simpa using c32
                  (try (have c32b1 : decide (t273 = t275) = false := by simpa using c32))
                  (try (have c32b2 : (t273 == t275) = false := by simpa using c32))
                  (try (have c32b3 : ¬ (t273 = t275) := by simpa using c32))
                  clear c32
                  have H' := Aside0.mk H
                  clear H
                  go_wp2_with (first | ((with_reducible refine gate_callee (f := 15) rfl ?_); refine goesL_ (some 50) rfl rfl Try.func15 (by kernel_rfl) rfl #[.slice Ao22 t263.length co22] rfl (by (try simp only [List.map_toArray, List.map_cons, List.map_nil]); first | done | rfl | (simp only [List.length_drop, List.length_take]; rfl)) ?_; (with_reducible refine (watchmanref07_Sort.calls kj4 _ _ t263 t279 _ ?side1 ?side2 A25.out).mono ?_); (case side1 => repeat (first | exact (Kd.R_reads' HO265.out).2.2 | (with_reducible refine Kd.C_alloc ?_ _) | (with_reducible refine Kd.C_drewN ?_ _) | (with_reducible refine Kd.C_drew ?_))); (case side2 => exact (Kd.R_reads' HO265.out).2.1); rintro e w44 ⟨v280, rfl, ho0, hb⟩; refine ⟨_, rfl, ?_⟩; have n0_ := Aside0.mk (Kd.R_elder' (by (with_reducible repeat (first | apply Kd.R_alloc | apply Kd.R_drewN | apply Kd.R_drew)); exact HO265.out) (Kd.R_base ho0) hb); have n1_ := Aside0.mk (Kd.R_elder' (by (with_reducible repeat (first | apply Kd.R_alloc | apply Kd.R_drewN | apply Kd.R_drew)); exact HO268.out) (Kd.R_base ho0) hb); have n2_ := Aside0.mk (Kd.R_elder' (by (with_reducible repeat (first | apply Kd.R_alloc | apply Kd.R_drewN | apply Kd.R_drew)); exact HO271.out) (Kd.R_base ho0) hb); have n3_ := Aside0.mk (Kd.R_elder' (by (with_reducible repeat (first | apply Kd.R_alloc | apply Kd.R_drewN | apply Kd.R_drew)); exact HO278.out) (Kd.R_base ho0) hb); have n4_ := Aside0.mk (Kd.R_lower (Kd.R_new' (Kd.R_new' (Kd.R_new' (Kd.R_new' ho0 (Kd.R_lt (by (with_reducible repeat (first | apply Kd.R_alloc | apply Kd.R_drewN | apply Kd.R_drew)); exact HO265.out))) (Kd.R_lt (by (with_reducible repeat (first | apply Kd.R_alloc | apply Kd.R_drewN | apply Kd.R_drew)); exact HO268.out))) (Kd.R_lt (by (with_reducible repeat (first | apply Kd.R_alloc | apply Kd.R_drewN | apply Kd.R_drew)); exact HO271.out))) (Kd.R_lt (by (with_reducible repeat (first | apply Kd.R_alloc | apply Kd.R_drewN | apply Kd.R_drew)); exact HO278.out))) (below_size (by repeat (first | (with_reducible first | exact HB.out | apply below_alloc | apply pw_below_drewN | apply below_drew1 | refine below_set ?_ GE262.out) | exact HB.out)))); have n5_ := Aside0.mk (blk_below (g := gb262) (o := .cells #[.int .i64 a3_0, .int .i64 a3_1] 24 (0, 0)) (by (with_reducible repeat (first | refine blk_drewN ?_ _ | refine blk_drew ?_ | refine blk_alloc ?_ _)); exact BK262.out) hb); have n6_ := Aside0.mk (below_step (by repeat (first | (with_reducible first | exact HB.out | apply below_alloc | apply pw_below_drewN | apply below_drew1 | refine below_set ?_ GE262.out) | exact HB.out)) hb); clear HO265; clear HO268; clear HO271; clear HO278; clear BK262; clear HB; have HO265 := n0_; have HO268 := n1_; have HO271 := n2_; have HO278 := n3_; have HO281 := n4_; have BK262 := n5_; have HB := n6_; clear n0_ n1_ n2_ n3_ n4_ n5_ n6_; (try clear hb); (try clear hb2); (try clear hk); (try clear hi); (try clear ho0); obtain ⟨Ao45, co45, eo45⟩ := Kd.R_slice HO268.out; subst eo45; obtain ⟨Ao46, co46, eo46⟩ := Kd.R_slice HO281.out; subst eo46) | ((with_reducible refine gate_callee (f := 14) rfl ?_); refine goesL_ (some 51) rfl rfl Try.func14 (by kernel_rfl) rfl #[.slice Ao45 t266.length co45, .slice Ao46 t279.length co46] rfl (by (try simp only [List.map_toArray, List.map_cons, List.map_nil]); first | done | rfl | (simp only [List.length_drop, List.length_take]; rfl)) ?_; (with_reducible refine (watchmanref07_Same.calls kj4 _ _ t266 _ _ t279 true _ ?side1 ?side2 ?side3 ?side4 A26.out).mono ?_); (case side1 => repeat (first | exact (Kd.R_reads' HO268.out).2.2 | (with_reducible refine Kd.C_alloc ?_ _) | (with_reducible refine Kd.C_drewN ?_ _) | (with_reducible refine Kd.C_drew ?_))); (case side2 => exact (Kd.R_reads' HO268.out).2.1); (case side3 => repeat (first | exact (Kd.R_reads' HO281.out).2.2 | (with_reducible refine Kd.C_alloc ?_ _) | (with_reducible refine Kd.C_drewN ?_ _) | (with_reducible refine Kd.C_drew ?_))); (case side4 => exact (Kd.R_reads' HO281.out).2.1); rintro e w' ⟨rfl, ⟨nd, rfl⟩⟩; refine ⟨_, rfl, ?_⟩) | (go_at_call 16; (with_reducible refine (watchmanref07_Top.calls kj4 a2 _ _ t263 t283 _ ?side1 ?side2 A28.out).mono ?_); (case side1 => repeat (first | exact (Kd.R_reads' HO265.out).2.2 | (with_reducible refine Kd.C_alloc ?_ _) | (with_reducible refine Kd.C_drewN ?_ _) | (with_reducible refine Kd.C_drew ?_))); (case side2 => exact (Kd.R_reads' HO265.out).2.1); rintro e w47 ⟨v284, rfl, ho0, hb⟩; have n0_ := Aside0.mk (Kd.R_elder' (by (with_reducible repeat (first | apply Kd.R_alloc | apply Kd.R_drewN | apply Kd.R_drew)); exact HO265.out) (Kd.R_base ho0) hb); have n1_ := Aside0.mk (Kd.R_elder' (by (with_reducible repeat (first | apply Kd.R_alloc | apply Kd.R_drewN | apply Kd.R_drew)); exact HO268.out) (Kd.R_base ho0) hb); have n2_ := Aside0.mk (Kd.R_elder' (by (with_reducible repeat (first | apply Kd.R_alloc | apply Kd.R_drewN | apply Kd.R_drew)); exact HO271.out) (Kd.R_base ho0) hb); have n3_ := Aside0.mk (Kd.R_elder' (by (with_reducible repeat (first | apply Kd.R_alloc | apply Kd.R_drewN | apply Kd.R_drew)); exact HO278.out) (Kd.R_base ho0) hb); have n4_ := Aside0.mk (Kd.R_elder' (by (with_reducible repeat (first | apply Kd.R_alloc | apply Kd.R_drewN | apply Kd.R_drew)); exact HO281.out) (Kd.R_base ho0) hb); have n5_ := Aside0.mk (Kd.R_lower (Kd.R_new' (Kd.R_new' (Kd.R_new' (Kd.R_new' (Kd.R_new' ho0 (Kd.R_lt (by (with_reducible repeat (first | apply Kd.R_alloc | apply Kd.R_drewN | apply Kd.R_drew)); exact HO265.out))) (Kd.R_lt (by (with_reducible repeat (first | apply Kd.R_alloc | apply Kd.R_drewN | apply Kd.R_drew)); exact HO268.out))) (Kd.R_lt (by (with_reducible repeat (first | apply Kd.R_alloc | apply Kd.R_drewN | apply Kd.R_drew)); exact HO271.out))) (Kd.R_lt (by (with_reducible repeat (first | apply Kd.R_alloc | apply Kd.R_drewN | apply Kd.R_drew)); exact HO278.out))) (Kd.R_lt (by (with_reducible repeat (first | apply Kd.R_alloc | apply Kd.R_drewN | apply Kd.R_drew)); exact HO281.out))) (below_size (by repeat (first | (with_reducible first | exact HB.out | apply below_alloc | apply pw_below_drewN | apply below_drew1 | refine below_set ?_ GE262.out) | exact HB.out)))); have n6_ := Aside0.mk (blk_below (g := gb262) (o := .cells #[.int .i64 a3_0, .int .i64 a3_1] 24 (0, 0)) (by (with_reducible repeat (first | refine blk_drewN ?_ _ | refine blk_drew ?_ | refine blk_alloc ?_ _)); exact BK262.out) hb); have n7_ := Aside0.mk (below_step (by repeat (first | (with_reducible first | exact HB.out | apply below_alloc | apply pw_below_drewN | apply below_drew1 | refine below_set ?_ GE262.out) | exact HB.out)) hb); clear HO265; clear HO268; clear HO271; clear HO278; clear HO281; clear BK262; clear HB; have HO265 := n0_; have HO268 := n1_; have HO271 := n2_; have HO278 := n3_; have HO281 := n4_; have HO285 := n5_; have BK262 := n6_; have HB := n7_; clear n0_ n1_ n2_ n3_ n4_ n5_ n6_ n7_; (try clear hb); (try clear hb2); (try clear hk); (try clear hi); (try clear ho0); obtain ⟨Ao48, co48, eo48⟩ := Kd.R_slice HO271.out; subst eo48; obtain ⟨Ao49, co49, eo49⟩ := Kd.R_slice HO285.out; subst eo49) | (go_at_call 14; (with_reducible refine (watchmanref07_Same.calls kj4 _ _ t269 _ _ t283 true _ ?side1 ?side2 ?side3 ?side4 A29.out).mono ?_); (case side1 => repeat (first | exact (Kd.R_reads' HO271.out).2.2 | (with_reducible refine Kd.C_alloc ?_ _) | (with_reducible refine Kd.C_drewN ?_ _) | (with_reducible refine Kd.C_drew ?_))); (case side2 => exact (Kd.R_reads' HO271.out).2.1); (case side3 => repeat (first | exact (Kd.R_reads' HO285.out).2.2 | (with_reducible refine Kd.C_alloc ?_ _) | (with_reducible refine Kd.C_drewN ?_ _) | (with_reducible refine Kd.C_drew ?_))); (case side4 => exact (Kd.R_reads' HO285.out).2.1); rintro e w' ⟨rfl, ⟨nd, rfl⟩⟩))
                  go_meet
                  case rel => exact ⟨_, (false), (by first | rfl | (simp; done) | (simp [*]; done)), H', ⟨by have := HJ4.out; first | omega | exact Nat.le_refl _⟩, ⟨by (with_reducible repeat (first | apply Kd.R_alloc | apply Kd.R_drewN | apply Kd.R_drew)); exact Kd.R_mono HO265.out (fun _ hk => ⟨hk.1.1.1.1.2, ⟨hk.1.1.1.2, hk.1.1.2⟩⟩)⟩, ⟨by (with_reducible repeat (first | apply Kd.R_alloc | apply Kd.R_drewN | apply Kd.R_drew)); exact Kd.R_mono HO268.out (fun _ hk => ⟨hk.1.1.1.1.2, ⟨hk.1.1.1.2, hk.1.1.2⟩⟩)⟩, ⟨by (with_reducible repeat (first | apply Kd.R_alloc | apply Kd.R_drewN | apply Kd.R_drew)); exact Kd.R_mono HO271.out (fun _ hk => ⟨hk.1.1.1.1.2, ⟨hk.1.1.1.2, hk.1.1.2⟩⟩)⟩, ⟨by (with_reducible repeat (first | apply Kd.R_alloc | apply Kd.R_drewN | apply Kd.R_drew)); exact Kd.R_mono HO278.out (fun _ hk => ⟨hk.1.1.1.1.2, ⟨hk.1.1.1.2, hk.1.1.2⟩⟩)⟩, ⟨by (with_reducible repeat (first | refine blk_drewN ?_ _ | refine blk_drew ?_ | refine blk_alloc ?_ _)); exact BK262.out⟩, ⟨by repeat (first | (with_reducible first | exact HB.out | apply below_alloc | apply pw_below_drewN | apply below_drew1 | refine below_set ?_ GE262.out) | exact HB.out)⟩⟩
              · rw [if_neg c31] at H
                have c31b0 : (t272 == t274) = false := beq_eq_false_iff_ne.mpr c31
                have c31b1 : (t272 != t274) = true := bne_iff_ne.mpr c31
                (first | rw [c31b0] | (simp only [i64_w, i32_w]; rw [c31b0]) | skip)
                have H' := Aside0.mk H
                clear H
                go_wp2_with (first | ((with_reducible refine gate_callee (f := 15) rfl ?_); refine goesL_ (some 50) rfl rfl Try.func15 (by kernel_rfl) rfl #[.slice Ao22 t263.length co22] rfl (by (try simp only [List.map_toArray, List.map_cons, List.map_nil]); first | done | rfl | (simp only [List.length_drop, List.length_take]; rfl)) ?_; (with_reducible refine (watchmanref07_Sort.calls kj4 _ _ t263 t279 _ ?side1 ?side2 A25.out).mono ?_); (case side1 => repeat (first | exact (Kd.R_reads' HO265.out).2.2 | (with_reducible refine Kd.C_alloc ?_ _) | (with_reducible refine Kd.C_drewN ?_ _) | (with_reducible refine Kd.C_drew ?_))); (case side2 => exact (Kd.R_reads' HO265.out).2.1); rintro e w50 ⟨v280, rfl, ho0, hb⟩; refine ⟨_, rfl, ?_⟩; have n0_ := Aside0.mk (Kd.R_elder' (by (with_reducible repeat (first | apply Kd.R_alloc | apply Kd.R_drewN | apply Kd.R_drew)); exact HO265.out) (Kd.R_base ho0) hb); have n1_ := Aside0.mk (Kd.R_elder' (by (with_reducible repeat (first | apply Kd.R_alloc | apply Kd.R_drewN | apply Kd.R_drew)); exact HO268.out) (Kd.R_base ho0) hb); have n2_ := Aside0.mk (Kd.R_elder' (by (with_reducible repeat (first | apply Kd.R_alloc | apply Kd.R_drewN | apply Kd.R_drew)); exact HO271.out) (Kd.R_base ho0) hb); have n3_ := Aside0.mk (Kd.R_elder' (by (with_reducible repeat (first | apply Kd.R_alloc | apply Kd.R_drewN | apply Kd.R_drew)); exact HO278.out) (Kd.R_base ho0) hb); have n4_ := Aside0.mk (Kd.R_lower (Kd.R_new' (Kd.R_new' (Kd.R_new' (Kd.R_new' ho0 (Kd.R_lt (by (with_reducible repeat (first | apply Kd.R_alloc | apply Kd.R_drewN | apply Kd.R_drew)); exact HO265.out))) (Kd.R_lt (by (with_reducible repeat (first | apply Kd.R_alloc | apply Kd.R_drewN | apply Kd.R_drew)); exact HO268.out))) (Kd.R_lt (by (with_reducible repeat (first | apply Kd.R_alloc | apply Kd.R_drewN | apply Kd.R_drew)); exact HO271.out))) (Kd.R_lt (by (with_reducible repeat (first | apply Kd.R_alloc | apply Kd.R_drewN | apply Kd.R_drew)); exact HO278.out))) (below_size (by repeat (first | (with_reducible first | exact HB.out | apply below_alloc | apply pw_below_drewN | apply below_drew1 | refine below_set ?_ GE262.out) | exact HB.out)))); have n5_ := Aside0.mk (blk_below (g := gb262) (o := .cells #[.int .i64 a3_0, .int .i64 a3_1] 24 (0, 0)) (by (with_reducible repeat (first | refine blk_drewN ?_ _ | refine blk_drew ?_ | refine blk_alloc ?_ _)); exact BK262.out) hb); have n6_ := Aside0.mk (below_step (by repeat (first | (with_reducible first | exact HB.out | apply below_alloc | apply pw_below_drewN | apply below_drew1 | refine below_set ?_ GE262.out) | exact HB.out)) hb); clear HO265; clear HO268; clear HO271; clear HO278; clear BK262; clear HB; have HO265 := n0_; have HO268 := n1_; have HO271 := n2_; have HO278 := n3_; have HO281 := n4_; have BK262 := n5_; have HB := n6_; clear n0_ n1_ n2_ n3_ n4_ n5_ n6_; (try clear hb); (try clear hb2); (try clear hk); (try clear hi); (try clear ho0); obtain ⟨Ao51, co51, eo51⟩ := Kd.R_slice HO268.out; subst eo51; obtain ⟨Ao52, co52, eo52⟩ := Kd.R_slice HO281.out; subst eo52) | ((with_reducible refine gate_callee (f := 14) rfl ?_); refine goesL_ (some 51) rfl rfl Try.func14 (by kernel_rfl) rfl #[.slice Ao51 t266.length co51, .slice Ao52 t279.length co52] rfl (by (try simp only [List.map_toArray, List.map_cons, List.map_nil]); first | done | rfl | (simp only [List.length_drop, List.length_take]; rfl)) ?_; (with_reducible refine (watchmanref07_Same.calls kj4 _ _ t266 _ _ t279 true _ ?side1 ?side2 ?side3 ?side4 A26.out).mono ?_); (case side1 => repeat (first | exact (Kd.R_reads' HO268.out).2.2 | (with_reducible refine Kd.C_alloc ?_ _) | (with_reducible refine Kd.C_drewN ?_ _) | (with_reducible refine Kd.C_drew ?_))); (case side2 => exact (Kd.R_reads' HO268.out).2.1); (case side3 => repeat (first | exact (Kd.R_reads' HO281.out).2.2 | (with_reducible refine Kd.C_alloc ?_ _) | (with_reducible refine Kd.C_drewN ?_ _) | (with_reducible refine Kd.C_drew ?_))); (case side4 => exact (Kd.R_reads' HO281.out).2.1); rintro e w' ⟨rfl, ⟨nd, rfl⟩⟩; refine ⟨_, rfl, ?_⟩) | (go_at_call 16; (with_reducible refine (watchmanref07_Top.calls kj4 a2 _ _ t263 t283 _ ?side1 ?side2 A28.out).mono ?_); (case side1 => repeat (first | exact (Kd.R_reads' HO265.out).2.2 | (with_reducible refine Kd.C_alloc ?_ _) | (with_reducible refine Kd.C_drewN ?_ _) | (with_reducible refine Kd.C_drew ?_))); (case side2 => exact (Kd.R_reads' HO265.out).2.1); rintro e w53 ⟨v284, rfl, ho0, hb⟩; have n0_ := Aside0.mk (Kd.R_elder' (by (with_reducible repeat (first | apply Kd.R_alloc | apply Kd.R_drewN | apply Kd.R_drew)); exact HO265.out) (Kd.R_base ho0) hb); have n1_ := Aside0.mk (Kd.R_elder' (by (with_reducible repeat (first | apply Kd.R_alloc | apply Kd.R_drewN | apply Kd.R_drew)); exact HO268.out) (Kd.R_base ho0) hb); have n2_ := Aside0.mk (Kd.R_elder' (by (with_reducible repeat (first | apply Kd.R_alloc | apply Kd.R_drewN | apply Kd.R_drew)); exact HO271.out) (Kd.R_base ho0) hb); have n3_ := Aside0.mk (Kd.R_elder' (by (with_reducible repeat (first | apply Kd.R_alloc | apply Kd.R_drewN | apply Kd.R_drew)); exact HO278.out) (Kd.R_base ho0) hb); have n4_ := Aside0.mk (Kd.R_elder' (by (with_reducible repeat (first | apply Kd.R_alloc | apply Kd.R_drewN | apply Kd.R_drew)); exact HO281.out) (Kd.R_base ho0) hb); have n5_ := Aside0.mk (Kd.R_lower (Kd.R_new' (Kd.R_new' (Kd.R_new' (Kd.R_new' (Kd.R_new' ho0 (Kd.R_lt (by (with_reducible repeat (first | apply Kd.R_alloc | apply Kd.R_drewN | apply Kd.R_drew)); exact HO265.out))) (Kd.R_lt (by (with_reducible repeat (first | apply Kd.R_alloc | apply Kd.R_drewN | apply Kd.R_drew)); exact HO268.out))) (Kd.R_lt (by (with_reducible repeat (first | apply Kd.R_alloc | apply Kd.R_drewN | apply Kd.R_drew)); exact HO271.out))) (Kd.R_lt (by (with_reducible repeat (first | apply Kd.R_alloc | apply Kd.R_drewN | apply Kd.R_drew)); exact HO278.out))) (Kd.R_lt (by (with_reducible repeat (first | apply Kd.R_alloc | apply Kd.R_drewN | apply Kd.R_drew)); exact HO281.out))) (below_size (by repeat (first | (with_reducible first | exact HB.out | apply below_alloc | apply pw_below_drewN | apply below_drew1 | refine below_set ?_ GE262.out) | exact HB.out)))); have n6_ := Aside0.mk (blk_below (g := gb262) (o := .cells #[.int .i64 a3_0, .int .i64 a3_1] 24 (0, 0)) (by (with_reducible repeat (first | refine blk_drewN ?_ _ | refine blk_drew ?_ | refine blk_alloc ?_ _)); exact BK262.out) hb); have n7_ := Aside0.mk (below_step (by repeat (first | (with_reducible first | exact HB.out | apply below_alloc | apply pw_below_drewN | apply below_drew1 | refine below_set ?_ GE262.out) | exact HB.out)) hb); clear HO265; clear HO268; clear HO271; clear HO278; clear HO281; clear BK262; clear HB; have HO265 := n0_; have HO268 := n1_; have HO271 := n2_; have HO278 := n3_; have HO281 := n4_; have HO285 := n5_; have BK262 := n6_; have HB := n7_; clear n0_ n1_ n2_ n3_ n4_ n5_ n6_ n7_; (try clear hb); (try clear hb2); (try clear hk); (try clear hi); (try clear ho0); obtain ⟨Ao54, co54, eo54⟩ := Kd.R_slice HO271.out; subst eo54; obtain ⟨Ao55, co55, eo55⟩ := Kd.R_slice HO285.out; subst eo55) | (go_at_call 14; (with_reducible refine (watchmanref07_Same.calls kj4 _ _ t269 _ _ t283 true _ ?side1 ?side2 ?side3 ?side4 A29.out).mono ?_); (case side1 => repeat (first | exact (Kd.R_reads' HO271.out).2.2 | (with_reducible refine Kd.C_alloc ?_ _) | (with_reducible refine Kd.C_drewN ?_ _) | (with_reducible refine Kd.C_drew ?_))); (case side2 => exact (Kd.R_reads' HO271.out).2.1); (case side3 => repeat (first | exact (Kd.R_reads' HO285.out).2.2 | (with_reducible refine Kd.C_alloc ?_ _) | (with_reducible refine Kd.C_drewN ?_ _) | (with_reducible refine Kd.C_drew ?_))); (case side4 => exact (Kd.R_reads' HO285.out).2.1); rintro e w' ⟨rfl, ⟨nd, rfl⟩⟩))
                go_meet
                case rel => exact ⟨_, (false), (by first | rfl | (simp; done) | (simp [*]; done)), H', ⟨by have := HJ4.out; first | omega | exact Nat.le_refl _⟩, ⟨by (with_reducible repeat (first | apply Kd.R_alloc | apply Kd.R_drewN | apply Kd.R_drew)); exact Kd.R_mono HO265.out (fun _ hk => ⟨hk.1.1.1.1.2, ⟨hk.1.1.1.2, hk.1.1.2⟩⟩)⟩, ⟨by (with_reducible repeat (first | apply Kd.R_alloc | apply Kd.R_drewN | apply Kd.R_drew)); exact Kd.R_mono HO268.out (fun _ hk => ⟨hk.1.1.1.1.2, ⟨hk.1.1.1.2, hk.1.1.2⟩⟩)⟩, ⟨by (with_reducible repeat (first | apply Kd.R_alloc | apply Kd.R_drewN | apply Kd.R_drew)); exact Kd.R_mono HO271.out (fun _ hk => ⟨hk.1.1.1.1.2, ⟨hk.1.1.1.2, hk.1.1.2⟩⟩)⟩, ⟨by (with_reducible repeat (first | apply Kd.R_alloc | apply Kd.R_drewN | apply Kd.R_drew)); exact Kd.R_mono HO278.out (fun _ hk => ⟨hk.1.1.1.1.2, ⟨hk.1.1.1.2, hk.1.1.2⟩⟩)⟩, ⟨by (with_reducible repeat (first | refine blk_drewN ?_ _ | refine blk_drew ?_ | refine blk_alloc ?_ _)); exact BK262.out⟩, ⟨by repeat (first | (with_reducible first | exact HB.out | apply below_alloc | apply pw_below_drewN | apply below_drew1 | refine below_set ?_ GE262.out) | exact HB.out)⟩⟩
            · replace c30 := Bool.eq_false_iff.mpr c30
              subst c30
              have H1 : (watchmanlaw07_RankDoes.j1 kj4 l0 l1 t263 t266 t269 t276 false) = some r := by rw [if_neg (show ¬ (false = true) by decide)] at H; exact H
              clear H
              have H := H1
              clear H1
              have H' := Aside0.mk H
              clear H
              go_wp2_with (first | ((with_reducible refine gate_callee (f := 15) rfl ?_); refine goesL_ (some 50) rfl rfl Try.func15 (by kernel_rfl) rfl #[.slice Ao22 t263.length co22] rfl (by (try simp only [List.map_toArray, List.map_cons, List.map_nil]); first | done | rfl | (simp only [List.length_drop, List.length_take]; rfl)) ?_; (with_reducible refine (watchmanref07_Sort.calls kj4 _ _ t263 t279 _ ?side1 ?side2 A25.out).mono ?_); (case side1 => repeat (first | exact (Kd.R_reads' HO265.out).2.2 | (with_reducible refine Kd.C_alloc ?_ _) | (with_reducible refine Kd.C_drewN ?_ _) | (with_reducible refine Kd.C_drew ?_))); (case side2 => exact (Kd.R_reads' HO265.out).2.1); rintro e w56 ⟨v280, rfl, ho0, hb⟩; refine ⟨_, rfl, ?_⟩; have n0_ := Aside0.mk (Kd.R_elder' (by (with_reducible repeat (first | apply Kd.R_alloc | apply Kd.R_drewN | apply Kd.R_drew)); exact HO265.out) (Kd.R_base ho0) hb); have n1_ := Aside0.mk (Kd.R_elder' (by (with_reducible repeat (first | apply Kd.R_alloc | apply Kd.R_drewN | apply Kd.R_drew)); exact HO268.out) (Kd.R_base ho0) hb); have n2_ := Aside0.mk (Kd.R_elder' (by (with_reducible repeat (first | apply Kd.R_alloc | apply Kd.R_drewN | apply Kd.R_drew)); exact HO271.out) (Kd.R_base ho0) hb); have n3_ := Aside0.mk (Kd.R_elder' (by (with_reducible repeat (first | apply Kd.R_alloc | apply Kd.R_drewN | apply Kd.R_drew)); exact HO278.out) (Kd.R_base ho0) hb); have n4_ := Aside0.mk (Kd.R_lower (Kd.R_new' (Kd.R_new' (Kd.R_new' (Kd.R_new' ho0 (Kd.R_lt (by (with_reducible repeat (first | apply Kd.R_alloc | apply Kd.R_drewN | apply Kd.R_drew)); exact HO265.out))) (Kd.R_lt (by (with_reducible repeat (first | apply Kd.R_alloc | apply Kd.R_drewN | apply Kd.R_drew)); exact HO268.out))) (Kd.R_lt (by (with_reducible repeat (first | apply Kd.R_alloc | apply Kd.R_drewN | apply Kd.R_drew)); exact HO271.out))) (Kd.R_lt (by (with_reducible repeat (first | apply Kd.R_alloc | apply Kd.R_drewN | apply Kd.R_drew)); exact HO278.out))) (below_size (by repeat (first | (with_reducible first | exact HB.out | apply below_alloc | apply pw_below_drewN | apply below_drew1 | refine below_set ?_ GE262.out) | exact HB.out)))); have n5_ := Aside0.mk (blk_below (g := gb262) (o := .cells #[.int .i64 a3_0, .int .i64 a3_1] 24 (0, 0)) (by (with_reducible repeat (first | refine blk_drewN ?_ _ | refine blk_drew ?_ | refine blk_alloc ?_ _)); exact BK262.out) hb); have n6_ := Aside0.mk (below_step (by repeat (first | (with_reducible first | exact HB.out | apply below_alloc | apply pw_below_drewN | apply below_drew1 | refine below_set ?_ GE262.out) | exact HB.out)) hb); clear HO265; clear HO268; clear HO271; clear HO278; clear BK262; clear HB; have HO265 := n0_; have HO268 := n1_; have HO271 := n2_; have HO278 := n3_; have HO281 := n4_; have BK262 := n5_; have HB := n6_; clear n0_ n1_ n2_ n3_ n4_ n5_ n6_; (try clear hb); (try clear hb2); (try clear hk); (try clear hi); (try clear ho0); obtain ⟨Ao57, co57, eo57⟩ := Kd.R_slice HO268.out; subst eo57; obtain ⟨Ao58, co58, eo58⟩ := Kd.R_slice HO281.out; subst eo58) | ((with_reducible refine gate_callee (f := 14) rfl ?_); refine goesL_ (some 51) rfl rfl Try.func14 (by kernel_rfl) rfl #[.slice Ao57 t266.length co57, .slice Ao58 t279.length co58] rfl (by (try simp only [List.map_toArray, List.map_cons, List.map_nil]); first | done | rfl | (simp only [List.length_drop, List.length_take]; rfl)) ?_; (with_reducible refine (watchmanref07_Same.calls kj4 _ _ t266 _ _ t279 true _ ?side1 ?side2 ?side3 ?side4 A26.out).mono ?_); (case side1 => repeat (first | exact (Kd.R_reads' HO268.out).2.2 | (with_reducible refine Kd.C_alloc ?_ _) | (with_reducible refine Kd.C_drewN ?_ _) | (with_reducible refine Kd.C_drew ?_))); (case side2 => exact (Kd.R_reads' HO268.out).2.1); (case side3 => repeat (first | exact (Kd.R_reads' HO281.out).2.2 | (with_reducible refine Kd.C_alloc ?_ _) | (with_reducible refine Kd.C_drewN ?_ _) | (with_reducible refine Kd.C_drew ?_))); (case side4 => exact (Kd.R_reads' HO281.out).2.1); rintro e w' ⟨rfl, ⟨nd, rfl⟩⟩; refine ⟨_, rfl, ?_⟩) | (go_at_call 16; (with_reducible refine (watchmanref07_Top.calls kj4 a2 _ _ t263 t283 _ ?side1 ?side2 A28.out).mono ?_); (case side1 => repeat (first | exact (Kd.R_reads' HO265.out).2.2 | (with_reducible refine Kd.C_alloc ?_ _) | (with_reducible refine Kd.C_drewN ?_ _) | (with_reducible refine Kd.C_drew ?_))); (case side2 => exact (Kd.R_reads' HO265.out).2.1); rintro e w59 ⟨v284, rfl, ho0, hb⟩; have n0_ := Aside0.mk (Kd.R_elder' (by (with_reducible repeat (first | apply Kd.R_alloc | apply Kd.R_drewN | apply Kd.R_drew)); exact HO265.out) (Kd.R_base ho0) hb); have n1_ := Aside0.mk (Kd.R_elder' (by (with_reducible repeat (first | apply Kd.R_alloc | apply Kd.R_drewN | apply Kd.R_drew)); exact HO268.out) (Kd.R_base ho0) hb); have n2_ := Aside0.mk (Kd.R_elder' (by (with_reducible repeat (first | apply Kd.R_alloc | apply Kd.R_drewN | apply Kd.R_drew)); exact HO271.out) (Kd.R_base ho0) hb); have n3_ := Aside0.mk (Kd.R_elder' (by (with_reducible repeat (first | apply Kd.R_alloc | apply Kd.R_drewN | apply Kd.R_drew)); exact HO278.out) (Kd.R_base ho0) hb); have n4_ := Aside0.mk (Kd.R_elder' (by (with_reducible repeat (first | apply Kd.R_alloc | apply Kd.R_drewN | apply Kd.R_drew)); exact HO281.out) (Kd.R_base ho0) hb); have n5_ := Aside0.mk (Kd.R_lower (Kd.R_new' (Kd.R_new' (Kd.R_new' (Kd.R_new' (Kd.R_new' ho0 (Kd.R_lt (by (with_reducible repeat (first | apply Kd.R_alloc | apply Kd.R_drewN | apply Kd.R_drew)); exact HO265.out))) (Kd.R_lt (by (with_reducible repeat (first | apply Kd.R_alloc | apply Kd.R_drewN | apply Kd.R_drew)); exact HO268.out))) (Kd.R_lt (by (with_reducible repeat (first | apply Kd.R_alloc | apply Kd.R_drewN | apply Kd.R_drew)); exact HO271.out))) (Kd.R_lt (by (with_reducible repeat (first | apply Kd.R_alloc | apply Kd.R_drewN | apply Kd.R_drew)); exact HO278.out))) (Kd.R_lt (by (with_reducible repeat (first | apply Kd.R_alloc | apply Kd.R_drewN | apply Kd.R_drew)); exact HO281.out))) (below_size (by repeat (first | (with_reducible first | exact HB.out | apply below_alloc | apply pw_below_drewN | apply below_drew1 | refine below_set ?_ GE262.out) | exact HB.out)))); have n6_ := Aside0.mk (blk_below (g := gb262) (o := .cells #[.int .i64 a3_0, .int .i64 a3_1] 24 (0, 0)) (by (with_reducible repeat (first | refine blk_drewN ?_ _ | refine blk_drew ?_ | refine blk_alloc ?_ _)); exact BK262.out) hb); have n7_ := Aside0.mk (below_step (by repeat (first | (with_reducible first | exact HB.out | apply below_alloc | apply pw_below_drewN | apply below_drew1 | refine below_set ?_ GE262.out) | exact HB.out)) hb); clear HO265; clear HO268; clear HO271; clear HO278; clear HO281; clear BK262; clear HB; have HO265 := n0_; have HO268 := n1_; have HO271 := n2_; have HO278 := n3_; have HO281 := n4_; have HO285 := n5_; have BK262 := n6_; have HB := n7_; clear n0_ n1_ n2_ n3_ n4_ n5_ n6_ n7_; (try clear hb); (try clear hb2); (try clear hk); (try clear hi); (try clear ho0); obtain ⟨Ao60, co60, eo60⟩ := Kd.R_slice HO271.out; subst eo60; obtain ⟨Ao61, co61, eo61⟩ := Kd.R_slice HO285.out; subst eo61) | (go_at_call 14; (with_reducible refine (watchmanref07_Same.calls kj4 _ _ t269 _ _ t283 false _ ?side1 ?side2 ?side3 ?side4 A29.out).mono ?_); (case side1 => repeat (first | exact (Kd.R_reads' HO271.out).2.2 | (with_reducible refine Kd.C_alloc ?_ _) | (with_reducible refine Kd.C_drewN ?_ _) | (with_reducible refine Kd.C_drew ?_))); (case side2 => exact (Kd.R_reads' HO271.out).2.1); (case side3 => repeat (first | exact (Kd.R_reads' HO285.out).2.2 | (with_reducible refine Kd.C_alloc ?_ _) | (with_reducible refine Kd.C_drewN ?_ _) | (with_reducible refine Kd.C_drew ?_))); (case side4 => exact (Kd.R_reads' HO285.out).2.1); rintro e w' ⟨rfl, ⟨nd, rfl⟩⟩))
              go_meet
              case rel => exact ⟨_, (false), (by first | rfl | (simp; done) | (simp [*]; done)), H', ⟨by have := HJ4.out; first | omega | exact Nat.le_refl _⟩, ⟨by (with_reducible repeat (first | apply Kd.R_alloc | apply Kd.R_drewN | apply Kd.R_drew)); exact Kd.R_mono HO265.out (fun _ hk => ⟨hk.1.1.1.1.2, ⟨hk.1.1.1.2, hk.1.1.2⟩⟩)⟩, ⟨by (with_reducible repeat (first | apply Kd.R_alloc | apply Kd.R_drewN | apply Kd.R_drew)); exact Kd.R_mono HO268.out (fun _ hk => ⟨hk.1.1.1.1.2, ⟨hk.1.1.1.2, hk.1.1.2⟩⟩)⟩, ⟨by (with_reducible repeat (first | apply Kd.R_alloc | apply Kd.R_drewN | apply Kd.R_drew)); exact Kd.R_mono HO271.out (fun _ hk => ⟨hk.1.1.1.1.2, ⟨hk.1.1.1.2, hk.1.1.2⟩⟩)⟩, ⟨by (with_reducible repeat (first | apply Kd.R_alloc | apply Kd.R_drewN | apply Kd.R_drew)); exact Kd.R_mono HO278.out (fun _ hk => ⟨hk.1.1.1.1.2, ⟨hk.1.1.1.2, hk.1.1.2⟩⟩)⟩, ⟨by (with_reducible repeat (first | refine blk_drewN ?_ _ | refine blk_drew ?_ | refine blk_alloc ?_ _)); exact BK262.out⟩, ⟨by repeat (first | (with_reducible first | exact HB.out | apply below_alloc | apply pw_below_drewN | apply below_drew1 | refine below_set ?_ GE262.out) | exact HB.out)⟩⟩
          · replace c27 := Bool.eq_false_iff.mpr c27
            subst c27
            have H1 : (watchmanlaw07_RankDoes.j1 kj4 l0 l1 t263 t266 t269 t276 false) = some r := by rw [if_neg (show ¬ (false = true) by decide)] at H; exact H
            clear H
            have H := H1
            clear H1
            have H' := Aside0.mk H
            clear H
            go_wp2_with (first | ((with_reducible refine gate_callee (f := 15) rfl ?_); refine goesL_ (some 50) rfl rfl Try.func15 (by kernel_rfl) rfl #[.slice Ao22 t263.length co22] rfl (by (try simp only [List.map_toArray, List.map_cons, List.map_nil]); first | done | rfl | (simp only [List.length_drop, List.length_take]; rfl)) ?_; (with_reducible refine (watchmanref07_Sort.calls kj4 _ _ t263 t279 _ ?side1 ?side2 A25.out).mono ?_); (case side1 => repeat (first | exact (Kd.R_reads' HO265.out).2.2 | (with_reducible refine Kd.C_alloc ?_ _) | (with_reducible refine Kd.C_drewN ?_ _) | (with_reducible refine Kd.C_drew ?_))); (case side2 => exact (Kd.R_reads' HO265.out).2.1); rintro e w62 ⟨v280, rfl, ho0, hb⟩; refine ⟨_, rfl, ?_⟩; have n0_ := Aside0.mk (Kd.R_elder' (by (with_reducible repeat (first | apply Kd.R_alloc | apply Kd.R_drewN | apply Kd.R_drew)); exact HO265.out) (Kd.R_base ho0) hb); have n1_ := Aside0.mk (Kd.R_elder' (by (with_reducible repeat (first | apply Kd.R_alloc | apply Kd.R_drewN | apply Kd.R_drew)); exact HO268.out) (Kd.R_base ho0) hb); have n2_ := Aside0.mk (Kd.R_elder' (by (with_reducible repeat (first | apply Kd.R_alloc | apply Kd.R_drewN | apply Kd.R_drew)); exact HO271.out) (Kd.R_base ho0) hb); have n3_ := Aside0.mk (Kd.R_elder' (by (with_reducible repeat (first | apply Kd.R_alloc | apply Kd.R_drewN | apply Kd.R_drew)); exact HO278.out) (Kd.R_base ho0) hb); have n4_ := Aside0.mk (Kd.R_lower (Kd.R_new' (Kd.R_new' (Kd.R_new' (Kd.R_new' ho0 (Kd.R_lt (by (with_reducible repeat (first | apply Kd.R_alloc | apply Kd.R_drewN | apply Kd.R_drew)); exact HO265.out))) (Kd.R_lt (by (with_reducible repeat (first | apply Kd.R_alloc | apply Kd.R_drewN | apply Kd.R_drew)); exact HO268.out))) (Kd.R_lt (by (with_reducible repeat (first | apply Kd.R_alloc | apply Kd.R_drewN | apply Kd.R_drew)); exact HO271.out))) (Kd.R_lt (by (with_reducible repeat (first | apply Kd.R_alloc | apply Kd.R_drewN | apply Kd.R_drew)); exact HO278.out))) (below_size (by repeat (first | (with_reducible first | exact HB.out | apply below_alloc | apply pw_below_drewN | apply below_drew1 | refine below_set ?_ GE262.out) | exact HB.out)))); have n5_ := Aside0.mk (blk_below (g := gb262) (o := .cells #[.int .i64 a3_0, .int .i64 a3_1] 24 (0, 0)) (by (with_reducible repeat (first | refine blk_drewN ?_ _ | refine blk_drew ?_ | refine blk_alloc ?_ _)); exact BK262.out) hb); have n6_ := Aside0.mk (below_step (by repeat (first | (with_reducible first | exact HB.out | apply below_alloc | apply pw_below_drewN | apply below_drew1 | refine below_set ?_ GE262.out) | exact HB.out)) hb); clear HO265; clear HO268; clear HO271; clear HO278; clear BK262; clear HB; have HO265 := n0_; have HO268 := n1_; have HO271 := n2_; have HO278 := n3_; have HO281 := n4_; have BK262 := n5_; have HB := n6_; clear n0_ n1_ n2_ n3_ n4_ n5_ n6_; (try clear hb); (try clear hb2); (try clear hk); (try clear hi); (try clear ho0); obtain ⟨Ao63, co63, eo63⟩ := Kd.R_slice HO268.out; subst eo63; obtain ⟨Ao64, co64, eo64⟩ := Kd.R_slice HO281.out; subst eo64) | ((with_reducible refine gate_callee (f := 14) rfl ?_); refine goesL_ (some 51) rfl rfl Try.func14 (by kernel_rfl) rfl #[.slice Ao63 t266.length co63, .slice Ao64 t279.length co64] rfl (by (try simp only [List.map_toArray, List.map_cons, List.map_nil]); first | done | rfl | (simp only [List.length_drop, List.length_take]; rfl)) ?_; (with_reducible refine (watchmanref07_Same.calls kj4 _ _ t266 _ _ t279 false _ ?side1 ?side2 ?side3 ?side4 A26.out).mono ?_); (case side1 => repeat (first | exact (Kd.R_reads' HO268.out).2.2 | (with_reducible refine Kd.C_alloc ?_ _) | (with_reducible refine Kd.C_drewN ?_ _) | (with_reducible refine Kd.C_drew ?_))); (case side2 => exact (Kd.R_reads' HO268.out).2.1); (case side3 => repeat (first | exact (Kd.R_reads' HO281.out).2.2 | (with_reducible refine Kd.C_alloc ?_ _) | (with_reducible refine Kd.C_drewN ?_ _) | (with_reducible refine Kd.C_drew ?_))); (case side4 => exact (Kd.R_reads' HO281.out).2.1); rintro e w' ⟨rfl, ⟨nd, rfl⟩⟩; refine ⟨_, rfl, ?_⟩))
            go_meet
            case rel => exact ⟨_, (false), (by first | rfl | (simp; done) | (simp [*]; done)), H', ⟨by have := HJ4.out; first | omega | exact Nat.le_refl _⟩, ⟨by (with_reducible repeat (first | apply Kd.R_alloc | apply Kd.R_drewN | apply Kd.R_drew)); exact Kd.R_mono HO265.out (fun _ hk => ⟨hk.1.1.1.2, ⟨hk.1.1.2, hk.1.2⟩⟩)⟩, ⟨by (with_reducible repeat (first | apply Kd.R_alloc | apply Kd.R_drewN | apply Kd.R_drew)); exact Kd.R_mono HO268.out (fun _ hk => ⟨hk.1.1.1.2, ⟨hk.1.1.2, hk.1.2⟩⟩)⟩, ⟨by (with_reducible repeat (first | apply Kd.R_alloc | apply Kd.R_drewN | apply Kd.R_drew)); exact Kd.R_mono HO271.out (fun _ hk => ⟨hk.1.1.1.2, ⟨hk.1.1.2, hk.1.2⟩⟩)⟩, ⟨by (with_reducible repeat (first | apply Kd.R_alloc | apply Kd.R_drewN | apply Kd.R_drew)); exact Kd.R_mono HO278.out (fun _ hk => ⟨hk.1.1.1.2, ⟨hk.1.1.2, hk.1.2⟩⟩)⟩, ⟨by (with_reducible repeat (first | refine blk_drewN ?_ _ | refine blk_drew ?_ | refine blk_alloc ?_ _)); exact BK262.out⟩, ⟨by repeat (first | (with_reducible first | exact HB.out | apply below_alloc | apply pw_below_drewN | apply below_drew1 | refine below_set ?_ GE262.out) | exact HB.out)⟩⟩
        case rest =>
          clear HC15
          try clear c1
          try clear c2
          try clear p2
          try clear c3
          try clear c7
          try clear c7b0
          try clear c7b1
          try clear c8
          try clear c9
          try clear c10
          try clear c11
          try clear c12
          try clear c13
          try clear c14
          try clear c15
          try clear c27
          try clear c30
          try clear c31
          try clear c31b0
          try clear c31b1
          try clear c32
          try clear c32b0
          try clear c32b1
          try clear c32b2
          try clear hcz19_0
          try clear hcz19_1
          try clear hcz21_0
          try clear hcz21_1
          try clear hfz19_0
          try clear hfz19_1
          try clear hfz21_0
          try clear hfz21_1
          try clear p2
          obtain ⟨kq, x17_14, rfl, HA, HJ14, HO_9, HO_10, HO_11, HO_16, BK262, HB⟩ := hcut
          cases kq with
          | zero => exact absurd HA.out (by simp [watchmanlaw07_RankDoes.j1])
          | succ kj14 =>
            have H := HA.out
            clear HA
            simp only [watchmanlaw07_RankDoes.j1] at H
            have HC65 := Aside0.mk H
            clear H
            go_upto_region 10 with (fail)
            go_cut [100] (fun v100 wc => ∃ (kq : Nat) (x100_64 : Bool), v100 = .bool x100_64 ∧ Aside0 (watchmanlaw07_RankDoes.j2 kq l0 t263 t266 t269 t276 x17_14 x100_64 = some r) ∧ Aside0 (kq ≤ kj14) ∧ Aside0 (Kd.R k34 34 wc w.heap.size (fun k_ => some k_ ≠ (v267 : Value).ownBlock ∧ some k_ ≠ (v270 : Value).ownBlock ∧ some k_ ≠ (v277 : Value).ownBlock) (.slice Ao22 t263.length co22) t263) ∧ Aside0 (Kd.R k34 34 wc w.heap.size (fun k_ => some k_ ≠ ((.slice Ao22 t263.length co22) : Value).ownBlock ∧ some k_ ≠ (v270 : Value).ownBlock ∧ some k_ ≠ (v277 : Value).ownBlock) v267 t266) ∧ Aside0 (Kd.R k34 34 wc w.heap.size (fun k_ => some k_ ≠ ((.slice Ao22 t263.length co22) : Value).ownBlock ∧ some k_ ≠ (v267 : Value).ownBlock ∧ some k_ ≠ (v277 : Value).ownBlock) v270 t269) ∧ Aside0 (Kd.R k34 34 wc w.heap.size (fun k_ => some k_ ≠ ((.slice Ao22 t263.length co22) : Value).ownBlock ∧ some k_ ≠ (v267 : Value).ownBlock ∧ some k_ ≠ (v270 : Value).ownBlock) v277 t276) ∧ Aside0 (wc.heap[gb262]? = some (.cells #[.int .i64 a3_0, .int .i64 a3_1] 24 (0, 0))) ∧ Aside0 (Below w.heap.size w wc))
            case first =>
              have H := HC65.out
              clear HC65
              by_cases c66 : (l0.length : Int) > 0
              · rw [if_pos c66] at H
                have c66b0 : decide (0 < (l0.length : Int)) = true := decide_eq_true c66
                have c66b1 : decide (0 < l0.length) = true := decide_eq_true (by omega)
                clear c66
                (first | rw [c66b0] | (simp only [i64_w, i32_w]; rw [c66b0]) | skip)
                by_cases c67 : (l1.length : Int) > 0
                · rw [if_pos c67] at H
                  have c67b0 : decide (0 < (l1.length : Int)) = true := decide_eq_true c67
                  have c67b1 : decide (0 < l1.length) = true := decide_eq_true (by omega)
                  clear c67
                  by_cases c68 : 0 < (l0.length : Int)
                  · rw [if_pos c68] at H
                    have c68b0 : decide (0 < (l0.length : Int)) = true := decide_eq_true c68
                    have c68b1 : decide (0 < l0.length) = true := decide_eq_true (by omega)
                    clear c68
                    by_cases c69 : 0 < (l1.length : Int)
                    · rw [if_pos c69] at H
                      have c69b0 : decide (0 < (l1.length : Int)) = true := decide_eq_true c69
                      have c69b1 : decide (0 < l1.length) = true := decide_eq_true (by omega)
                      clear c69
                      replace H := Option.bind_eq_some_iff.mp H
                      obtain ⟨t293, A700, H⟩ := H
                      replace H : ((watchmanref07_Compare.f kj14 ((rd_T34 l0 0).f0.f0) ((rd_T34 l0 0).f0.f1) ((rd_T34 l0 0).f1) ((rd_T34 l0 0).f2) ((rd_T34 l0 0).f3) ((rd_T34 l0 0).f4) ((rd_T34 l1 0).f0.f0) ((rd_T34 l1 0).f0.f1) ((rd_T34 l1 0).f1) ((rd_T34 l1 0).f2) ((rd_T34 l1 0).f3) ((rd_T34 l1 0).f4)).bind fun t296 => (watchmanlaw07_RankDoes.j2 kj14 l0 t263 t266 t269 t276 x17_14 (t293 != t296))) = some r := H
                      have A70 := Aside0.mk A700
                      clear A700
                      replace H := Option.bind_eq_some_iff.mp H
                      obtain ⟨t296, A710, H⟩ := H
                      replace H : (watchmanlaw07_RankDoes.j2 kj14 l0 t263 t266 t269 t276 x17_14 (t293 != t296)) = some r := H
                      have A71 := Aside0.mk A710
                      clear A710
                      have H' := Aside0.mk H
                      clear H
                      try go_wp2
                      have n0_ := Aside0.mk (Kd.R_drew HO_9.out)
                      have n1_ := Aside0.mk (Kd.R_drew HO_10.out)
                      have n2_ := Aside0.mk (Kd.R_drew HO_11.out)
                      have n3_ := Aside0.mk (Kd.R_drew HO_16.out)
                      have n4_ := Aside0.mk (blk_drew BK262.out)
                      have n5_ := Aside0.mk (below_drew1 HB.out)
                      clear HO_9
                      clear HO_10
                      clear HO_11
                      clear HO_16
                      clear BK262
                      clear HB
                      have HO_9 := n0_
                      have HO_10 := n1_
                      have HO_11 := n2_
                      have HO_16 := n3_
                      have BK262 := n4_
                      have HB := n5_
                      clear n0_ n1_ n2_ n3_ n4_ n5_
                      have p291 : 0 ≤ (0 : Int) := (by omega)
                      have q291 : 0 < (l0.length : Int) := of_decide_eq_true (by first | (with_reducible assumption) | assumption)
                      obtain ⟨ad291, e291, hx291_0, hx291_1, hx291_2, hx291_3, hx291_4, hx291_5⟩ := at_T34 HR0.out 0 p291 q291
                      have hw291_5 := hx291_5
                      (try rw [show ((0 : Int)).toNat = 0 from rfl] at hw291_5)
                      (try rw [show 0 * 6 = 0 from rfl] at hw291_5)
                      (try rw [Addr.add_zero'] at hw291_5)
                      have hw291_4 := hx291_4
                      (try rw [show ((0 : Int)).toNat = 0 from rfl] at hw291_4)
                      (try rw [show 0 * 6 = 0 from rfl] at hw291_4)
                      (try rw [Addr.add_zero'] at hw291_4)
                      have hw291_3 := hx291_3
                      (try rw [show ((0 : Int)).toNat = 0 from rfl] at hw291_3)
                      (try rw [show 0 * 6 = 0 from rfl] at hw291_3)
                      (try rw [Addr.add_zero'] at hw291_3)
                      have hw291_2 := hx291_2
                      (try rw [show ((0 : Int)).toNat = 0 from rfl] at hw291_2)
                      (try rw [show 0 * 6 = 0 from rfl] at hw291_2)
                      (try rw [Addr.add_zero'] at hw291_2)
                      have hw291_1 := hx291_1
                      (try rw [show ((0 : Int)).toNat = 0 from rfl] at hw291_1)
                      (try rw [show 0 * 6 = 0 from rfl] at hw291_1)
                      (try rw [Addr.add_zero'] at hw291_1)
                      have hw291_0 := hx291_0
                      (try rw [show ((0 : Int)).toNat = 0 from rfl] at hw291_0)
                      (try rw [show 0 * 6 = 0 from rfl] at hw291_0)
                      (try rw [Addr.add_zero'] at hw291_0)
                      cases e291
                      have qi291 : (0 < l0.length) = True := eq_true (by omega)
                      (try rw [show ((0 : Int)).toNat = 0 from rfl] at hx291_0)
                      (try rw [show 0 * 6 = 0 from rfl] at hx291_0)
                      (try rw [Addr.add_zero'] at hx291_0)
                      (try rw [show ((0 : Int)).toNat = 0 from rfl] at hx291_1)
                      (try rw [show 0 * 6 = 0 from rfl] at hx291_1)
                      (try rw [Addr.add_zero'] at hx291_1)
                      (try rw [show ((0 : Int)).toNat = 0 from rfl] at hx291_2)
                      (try rw [show 0 * 6 = 0 from rfl] at hx291_2)
                      (try rw [Addr.add_zero'] at hx291_2)
                      (try rw [show ((0 : Int)).toNat = 0 from rfl] at hx291_3)
                      (try rw [show 0 * 6 = 0 from rfl] at hx291_3)
                      (try rw [Addr.add_zero'] at hx291_3)
                      (try rw [show ((0 : Int)).toNat = 0 from rfl] at hx291_4)
                      (try rw [show 0 * 6 = 0 from rfl] at hx291_4)
                      (try rw [Addr.add_zero'] at hx291_4)
                      (try rw [show ((0 : Int)).toNat = 0 from rfl] at hx291_5)
                      (try rw [show 0 * 6 = 0 from rfl] at hx291_5)
                      (try rw [Addr.add_zero'] at hx291_5)
                      replace hx291_0 := (HB.out.cell (World.block_lt_of_cell? w _ hx291_0)).trans hx291_0
                      replace hx291_1 := (HB.out.cell (World.block_lt_of_cell? w _ hx291_1)).trans hx291_1
                      replace hx291_2 := (HB.out.cell (World.block_lt_of_cell? w _ hx291_2)).trans hx291_2
                      replace hx291_3 := (HB.out.cell (World.block_lt_of_cell? w _ hx291_3)).trans hx291_3
                      replace hx291_4 := (HB.out.cell (World.block_lt_of_cell? w _ hx291_4)).trans hx291_4
                      replace hx291_5 := (HB.out.cell (World.block_lt_of_cell? w _ hx291_5)).trans hx291_5
                      replace p291 := eq_true p291
                      replace q291 := eq_true q291
                      have p292 : 0 ≤ (0 : Int) := (by omega)
                      have q292 : 0 < (l1.length : Int) := of_decide_eq_true (by first | (with_reducible assumption) | assumption)
                      obtain ⟨ad292, e292, hx292_0, hx292_1, hx292_2, hx292_3, hx292_4, hx292_5⟩ := at_T34 HR1.out 0 p292 q292
                      have hw292_5 := hx292_5
                      (try rw [show ((0 : Int)).toNat = 0 from rfl] at hw292_5)
                      (try rw [show 0 * 6 = 0 from rfl] at hw292_5)
                      (try rw [Addr.add_zero'] at hw292_5)
                      have hw292_4 := hx292_4
                      (try rw [show ((0 : Int)).toNat = 0 from rfl] at hw292_4)
                      (try rw [show 0 * 6 = 0 from rfl] at hw292_4)
                      (try rw [Addr.add_zero'] at hw292_4)
                      have hw292_3 := hx292_3
                      (try rw [show ((0 : Int)).toNat = 0 from rfl] at hw292_3)
                      (try rw [show 0 * 6 = 0 from rfl] at hw292_3)
                      (try rw [Addr.add_zero'] at hw292_3)
                      have hw292_2 := hx292_2
                      (try rw [show ((0 : Int)).toNat = 0 from rfl] at hw292_2)
                      (try rw [show 0 * 6 = 0 from rfl] at hw292_2)
                      (try rw [Addr.add_zero'] at hw292_2)
                      have hw292_1 := hx292_1
                      (try rw [show ((0 : Int)).toNat = 0 from rfl] at hw292_1)
                      (try rw [show 0 * 6 = 0 from rfl] at hw292_1)
                      (try rw [Addr.add_zero'] at hw292_1)
                      have hw292_0 := hx292_0
                      (try rw [show ((0 : Int)).toNat = 0 from rfl] at hw292_0)
                      (try rw [show 0 * 6 = 0 from rfl] at hw292_0)
                      (try rw [Addr.add_zero'] at hw292_0)
                      cases e292
                      have qi292 : (0 < l1.length) = True := eq_true (by omega)
                      (try rw [show ((0 : Int)).toNat = 0 from rfl] at hx292_0)
                      (try rw [show 0 * 6 = 0 from rfl] at hx292_0)
                      (try rw [Addr.add_zero'] at hx292_0)
                      (try rw [show ((0 : Int)).toNat = 0 from rfl] at hx292_1)
                      (try rw [show 0 * 6 = 0 from rfl] at hx292_1)
                      (try rw [Addr.add_zero'] at hx292_1)
                      (try rw [show ((0 : Int)).toNat = 0 from rfl] at hx292_2)
                      (try rw [show 0 * 6 = 0 from rfl] at hx292_2)
                      (try rw [Addr.add_zero'] at hx292_2)
                      (try rw [show ((0 : Int)).toNat = 0 from rfl] at hx292_3)
                      (try rw [show 0 * 6 = 0 from rfl] at hx292_3)
                      (try rw [Addr.add_zero'] at hx292_3)
                      (try rw [show ((0 : Int)).toNat = 0 from rfl] at hx292_4)
                      (try rw [show 0 * 6 = 0 from rfl] at hx292_4)
                      (try rw [Addr.add_zero'] at hx292_4)
                      (try rw [show ((0 : Int)).toNat = 0 from rfl] at hx292_5)
                      (try rw [show 0 * 6 = 0 from rfl] at hx292_5)
                      (try rw [Addr.add_zero'] at hx292_5)
                      replace hx292_0 := (HB.out.cell (World.block_lt_of_cell? w _ hx292_0)).trans hx292_0
                      replace hx292_1 := (HB.out.cell (World.block_lt_of_cell? w _ hx292_1)).trans hx292_1
                      replace hx292_2 := (HB.out.cell (World.block_lt_of_cell? w _ hx292_2)).trans hx292_2
                      replace hx292_3 := (HB.out.cell (World.block_lt_of_cell? w _ hx292_3)).trans hx292_3
                      replace hx292_4 := (HB.out.cell (World.block_lt_of_cell? w _ hx292_4)).trans hx292_4
                      replace hx292_5 := (HB.out.cell (World.block_lt_of_cell? w _ hx292_5)).trans hx292_5
                      replace p292 := eq_true p292
                      replace q292 := eq_true q292
                      have p294 : 0 ≤ (0 : Int) := (by omega)
                      have q294 : 0 < (l0.length : Int) := of_decide_eq_true (by first | (with_reducible assumption) | assumption)
                      obtain ⟨ad294, e294, hx294_0, hx294_1, hx294_2, hx294_3, hx294_4, hx294_5⟩ := at_T34 HR0.out 0 p294 q294
                      have hw294_5 := hx294_5
                      (try rw [show ((0 : Int)).toNat = 0 from rfl] at hw294_5)
                      (try rw [show 0 * 6 = 0 from rfl] at hw294_5)
                      (try rw [Addr.add_zero'] at hw294_5)
                      have hw294_4 := hx294_4
                      (try rw [show ((0 : Int)).toNat = 0 from rfl] at hw294_4)
                      (try rw [show 0 * 6 = 0 from rfl] at hw294_4)
                      (try rw [Addr.add_zero'] at hw294_4)
                      have hw294_3 := hx294_3
                      (try rw [show ((0 : Int)).toNat = 0 from rfl] at hw294_3)
                      (try rw [show 0 * 6 = 0 from rfl] at hw294_3)
                      (try rw [Addr.add_zero'] at hw294_3)
                      have hw294_2 := hx294_2
                      (try rw [show ((0 : Int)).toNat = 0 from rfl] at hw294_2)
                      (try rw [show 0 * 6 = 0 from rfl] at hw294_2)
                      (try rw [Addr.add_zero'] at hw294_2)
                      have hw294_1 := hx294_1
                      (try rw [show ((0 : Int)).toNat = 0 from rfl] at hw294_1)
                      (try rw [show 0 * 6 = 0 from rfl] at hw294_1)
                      (try rw [Addr.add_zero'] at hw294_1)
                      have hw294_0 := hx294_0
                      (try rw [show ((0 : Int)).toNat = 0 from rfl] at hw294_0)
                      (try rw [show 0 * 6 = 0 from rfl] at hw294_0)
                      (try rw [Addr.add_zero'] at hw294_0)
                      obtain rfl : ad291 = ad294 := (by injection e294)
                      have qi294 : (0 < l0.length) = True := eq_true (by omega)
                      (try rw [show ((0 : Int)).toNat = 0 from rfl] at hx294_0)
                      (try rw [show 0 * 6 = 0 from rfl] at hx294_0)
                      (try rw [Addr.add_zero'] at hx294_0)
                      (try rw [show ((0 : Int)).toNat = 0 from rfl] at hx294_1)
                      (try rw [show 0 * 6 = 0 from rfl] at hx294_1)
                      (try rw [Addr.add_zero'] at hx294_1)
                      (try rw [show ((0 : Int)).toNat = 0 from rfl] at hx294_2)
                      (try rw [show 0 * 6 = 0 from rfl] at hx294_2)
                      (try rw [Addr.add_zero'] at hx294_2)
                      (try rw [show ((0 : Int)).toNat = 0 from rfl] at hx294_3)
                      (try rw [show 0 * 6 = 0 from rfl] at hx294_3)
                      (try rw [Addr.add_zero'] at hx294_3)
                      (try rw [show ((0 : Int)).toNat = 0 from rfl] at hx294_4)
                      (try rw [show 0 * 6 = 0 from rfl] at hx294_4)
                      (try rw [Addr.add_zero'] at hx294_4)
                      (try rw [show ((0 : Int)).toNat = 0 from rfl] at hx294_5)
                      (try rw [show 0 * 6 = 0 from rfl] at hx294_5)
                      (try rw [Addr.add_zero'] at hx294_5)
                      replace hx294_0 := (HB.out.cell (World.block_lt_of_cell? w _ hx294_0)).trans hx294_0
                      replace hx294_1 := (HB.out.cell (World.block_lt_of_cell? w _ hx294_1)).trans hx294_1
                      replace hx294_2 := (HB.out.cell (World.block_lt_of_cell? w _ hx294_2)).trans hx294_2
                      replace hx294_3 := (HB.out.cell (World.block_lt_of_cell? w _ hx294_3)).trans hx294_3
                      replace hx294_4 := (HB.out.cell (World.block_lt_of_cell? w _ hx294_4)).trans hx294_4
                      replace hx294_5 := (HB.out.cell (World.block_lt_of_cell? w _ hx294_5)).trans hx294_5
                      replace p294 := eq_true p294
                      replace q294 := eq_true q294
                      have p295 : 0 ≤ (0 : Int) := (by omega)
                      have q295 : 0 < (l1.length : Int) := of_decide_eq_true (by first | (with_reducible assumption) | assumption)
                      obtain ⟨ad295, e295, hx295_0, hx295_1, hx295_2, hx295_3, hx295_4, hx295_5⟩ := at_T34 HR1.out 0 p295 q295
                      have hw295_5 := hx295_5
                      (try rw [show ((0 : Int)).toNat = 0 from rfl] at hw295_5)
                      (try rw [show 0 * 6 = 0 from rfl] at hw295_5)
                      (try rw [Addr.add_zero'] at hw295_5)
                      have hw295_4 := hx295_4
                      (try rw [show ((0 : Int)).toNat = 0 from rfl] at hw295_4)
                      (try rw [show 0 * 6 = 0 from rfl] at hw295_4)
                      (try rw [Addr.add_zero'] at hw295_4)
                      have hw295_3 := hx295_3
                      (try rw [show ((0 : Int)).toNat = 0 from rfl] at hw295_3)
                      (try rw [show 0 * 6 = 0 from rfl] at hw295_3)
                      (try rw [Addr.add_zero'] at hw295_3)
                      have hw295_2 := hx295_2
                      (try rw [show ((0 : Int)).toNat = 0 from rfl] at hw295_2)
                      (try rw [show 0 * 6 = 0 from rfl] at hw295_2)
                      (try rw [Addr.add_zero'] at hw295_2)
                      have hw295_1 := hx295_1
                      (try rw [show ((0 : Int)).toNat = 0 from rfl] at hw295_1)
                      (try rw [show 0 * 6 = 0 from rfl] at hw295_1)
                      (try rw [Addr.add_zero'] at hw295_1)
                      have hw295_0 := hx295_0
                      (try rw [show ((0 : Int)).toNat = 0 from rfl] at hw295_0)
                      (try rw [show 0 * 6 = 0 from rfl] at hw295_0)
                      (try rw [Addr.add_zero'] at hw295_0)
                      obtain rfl : ad292 = ad295 := (by injection e295)
                      have qi295 : (0 < l1.length) = True := eq_true (by omega)
                      (try rw [show ((0 : Int)).toNat = 0 from rfl] at hx295_0)
                      (try rw [show 0 * 6 = 0 from rfl] at hx295_0)
                      (try rw [Addr.add_zero'] at hx295_0)
                      (try rw [show ((0 : Int)).toNat = 0 from rfl] at hx295_1)
                      (try rw [show 0 * 6 = 0 from rfl] at hx295_1)
                      (try rw [Addr.add_zero'] at hx295_1)
                      (try rw [show ((0 : Int)).toNat = 0 from rfl] at hx295_2)
                      (try rw [show 0 * 6 = 0 from rfl] at hx295_2)
                      (try rw [Addr.add_zero'] at hx295_2)
                      (try rw [show ((0 : Int)).toNat = 0 from rfl] at hx295_3)
                      (try rw [show 0 * 6 = 0 from rfl] at hx295_3)
                      (try rw [Addr.add_zero'] at hx295_3)
                      (try rw [show ((0 : Int)).toNat = 0 from rfl] at hx295_4)
                      (try rw [show 0 * 6 = 0 from rfl] at hx295_4)
                      (try rw [Addr.add_zero'] at hx295_4)
                      (try rw [show ((0 : Int)).toNat = 0 from rfl] at hx295_5)
                      (try rw [show 0 * 6 = 0 from rfl] at hx295_5)
                      (try rw [Addr.add_zero'] at hx295_5)
                      replace hx295_0 := (HB.out.cell (World.block_lt_of_cell? w _ hx295_0)).trans hx295_0
                      replace hx295_1 := (HB.out.cell (World.block_lt_of_cell? w _ hx295_1)).trans hx295_1
                      replace hx295_2 := (HB.out.cell (World.block_lt_of_cell? w _ hx295_2)).trans hx295_2
                      replace hx295_3 := (HB.out.cell (World.block_lt_of_cell? w _ hx295_3)).trans hx295_3
                      replace hx295_4 := (HB.out.cell (World.block_lt_of_cell? w _ hx295_4)).trans hx295_4
                      replace hx295_5 := (HB.out.cell (World.block_lt_of_cell? w _ hx295_5)).trans hx295_5
                      replace p295 := eq_true p295
                      replace q295 := eq_true q295
                      refine start_ (n := 25) (S := fun w' => w'.cell? ad291 = some (.int .i64 ((rd_T34 l0 0).f0.f0)) ∧ w'.cell? ⟨ad291.block, ad291.off + 1, none⟩ = some (.int .i64 ((rd_T34 l0 0).f0.f1)) ∧ w'.cell? ⟨ad291.block, ad291.off + 2, none⟩ = some (.int .i64 ((rd_T34 l0 0).f1)) ∧ w'.cell? ⟨ad291.block, ad291.off + 3, none⟩ = some (.int .i64 ((rd_T34 l0 0).f2)) ∧ w'.cell? ⟨ad291.block, ad291.off + 4, none⟩ = some (.int .i64 ((rd_T34 l0 0).f3)) ∧ w'.cell? ⟨ad291.block, ad291.off + 5, none⟩ = some (.int .i64 ((rd_T34 l0 0).f4)) ∧ w'.cell? ad292 = some (.int .i64 ((rd_T34 l1 0).f0.f0)) ∧ w'.cell? ⟨ad292.block, ad292.off + 1, none⟩ = some (.int .i64 ((rd_T34 l1 0).f0.f1)) ∧ w'.cell? ⟨ad292.block, ad292.off + 2, none⟩ = some (.int .i64 ((rd_T34 l1 0).f1)) ∧ w'.cell? ⟨ad292.block, ad292.off + 3, none⟩ = some (.int .i64 ((rd_T34 l1 0).f2)) ∧ w'.cell? ⟨ad292.block, ad292.off + 4, none⟩ = some (.int .i64 ((rd_T34 l1 0).f3)) ∧ w'.cell? ⟨ad292.block, ad292.off + 5, none⟩ = some (.int .i64 ((rd_T34 l1 0).f4)) ∧ w'.cell? ad291 = some (.int .i64 ((rd_T34 l0 0).f0.f0)) ∧ w'.cell? ⟨ad291.block, ad291.off + 1, none⟩ = some (.int .i64 ((rd_T34 l0 0).f0.f1)) ∧ w'.cell? ⟨ad291.block, ad291.off + 2, none⟩ = some (.int .i64 ((rd_T34 l0 0).f1)) ∧ w'.cell? ⟨ad291.block, ad291.off + 3, none⟩ = some (.int .i64 ((rd_T34 l0 0).f2)) ∧ w'.cell? ⟨ad291.block, ad291.off + 4, none⟩ = some (.int .i64 ((rd_T34 l0 0).f3)) ∧ w'.cell? ⟨ad291.block, ad291.off + 5, none⟩ = some (.int .i64 ((rd_T34 l0 0).f4)) ∧ w'.cell? ad292 = some (.int .i64 ((rd_T34 l1 0).f0.f0)) ∧ w'.cell? ⟨ad292.block, ad292.off + 1, none⟩ = some (.int .i64 ((rd_T34 l1 0).f0.f1)) ∧ w'.cell? ⟨ad292.block, ad292.off + 2, none⟩ = some (.int .i64 ((rd_T34 l1 0).f1)) ∧ w'.cell? ⟨ad292.block, ad292.off + 3, none⟩ = some (.int .i64 ((rd_T34 l1 0).f2)) ∧ w'.cell? ⟨ad292.block, ad292.off + 4, none⟩ = some (.int .i64 ((rd_T34 l1 0).f3)) ∧ w'.cell? ⟨ad292.block, ad292.off + 5, none⟩ = some (.int .i64 ((rd_T34 l1 0).f4))) (ds := []) #[false, false, false, false, false, false, false, false, false, false, false, false, false, false, false, false, false, false, false, false, false, false, false, false, false] (by kernel_rfl) rfl rfl ⟨((HB.out.cell (World.block_lt_of_cell? w _ hw291_0)).trans hw291_0), ((HB.out.cell (World.block_lt_of_cell? w _ hw291_1)).trans hw291_1), ((HB.out.cell (World.block_lt_of_cell? w _ hw291_2)).trans hw291_2), ((HB.out.cell (World.block_lt_of_cell? w _ hw291_3)).trans hw291_3), ((HB.out.cell (World.block_lt_of_cell? w _ hw291_4)).trans hw291_4), ((HB.out.cell (World.block_lt_of_cell? w _ hw291_5)).trans hw291_5), ((HB.out.cell (World.block_lt_of_cell? w _ hw292_0)).trans hw292_0), ((HB.out.cell (World.block_lt_of_cell? w _ hw292_1)).trans hw292_1), ((HB.out.cell (World.block_lt_of_cell? w _ hw292_2)).trans hw292_2), ((HB.out.cell (World.block_lt_of_cell? w _ hw292_3)).trans hw292_3), ((HB.out.cell (World.block_lt_of_cell? w _ hw292_4)).trans hw292_4), ((HB.out.cell (World.block_lt_of_cell? w _ hw292_5)).trans hw292_5), ((HB.out.cell (World.block_lt_of_cell? w _ hw294_0)).trans hw294_0), ((HB.out.cell (World.block_lt_of_cell? w _ hw294_1)).trans hw294_1), ((HB.out.cell (World.block_lt_of_cell? w _ hw294_2)).trans hw294_2), ((HB.out.cell (World.block_lt_of_cell? w _ hw294_3)).trans hw294_3), ((HB.out.cell (World.block_lt_of_cell? w _ hw294_4)).trans hw294_4), ((HB.out.cell (World.block_lt_of_cell? w _ hw294_5)).trans hw294_5), ((HB.out.cell (World.block_lt_of_cell? w _ hw295_0)).trans hw295_0), ((HB.out.cell (World.block_lt_of_cell? w _ hw295_1)).trans hw295_1), ((HB.out.cell (World.block_lt_of_cell? w _ hw295_2)).trans hw295_2), ((HB.out.cell (World.block_lt_of_cell? w _ hw295_3)).trans hw295_3), ((HB.out.cell (World.block_lt_of_cell? w _ hw295_4)).trans hw295_4), ((HB.out.cell (World.block_lt_of_cell? w _ hw295_5)).trans hw295_5)⟩ (fun hHeld => ?_); refine with_tabW watchmanlaw07_RankDoes.tab10 watchmanlaw07_RankDoes.bits10 (fun HT_ HW_ => ?_)
                      generalize wc.drew = w72 at HO_9 HO_10 HO_11 HO_16 BK262 HB hx291_0 hx291_1 hx291_2 hx291_3 hx291_4 hx291_5 hx292_0 hx292_1 hx292_2 hx292_3 hx292_4 hx292_5 hx294_0 hx294_1 hx294_2 hx294_3 hx294_4 hx294_5 hx295_0 hx295_1 hx295_2 hx295_3 hx295_4 hx295_5 hHeld ⊢
                      refine pure_ (i := 0) (N := some 76) (v := ?_) (a' := ?_) #[true, false, false, false, false, false, false, false, false, false, false, false, false, false, false, false, false, false, false, false, false, false, false, false, false] rfl rfl (any_of HT_.out (by kernel_rfl)) (fun _ _ _ h => h) (Or.inl ⟨by rfl, ?_⟩) ?_ ?_
                      rotate_left
                      · intro w'
                        go_simp
                        with_reducible rfl
                      rotate_left
                      · simp only [Act.put, List.setIfInBounds_toArray, List.set_cons_zero, List.set_cons_succ, i64_w, i32_w]
                        rfl
                      refine pure_ (i := 1) (N := some 77) (v := ?_) (a' := ?_) #[true, true, false, false, false, false, false, false, false, false, false, false, false, false, false, false, false, false, false, false, false, false, false, false, false] rfl rfl (any_of HT_.out (by kernel_rfl)) (fun _ _ _ h => h) (Or.inl ⟨by rfl, ?_⟩) ?_ ?_
                      rotate_left
                      · intro w'
                        go_simp
                        with_reducible rfl
                      rotate_left
                      · simp only [Act.put, List.setIfInBounds_toArray, List.set_cons_zero, List.set_cons_succ, i64_w, i32_w]
                        rfl
                      refine pure_ (i := 2) (N := some 78) (v := ?_) (a' := ?_) #[true, true, true, false, false, false, false, false, false, false, false, false, false, false, false, false, false, false, false, false, false, false, false, false, false] rfl rfl (any_of HT_.out (by kernel_rfl)) (fun _ _ _ h => h) (Or.inl ⟨by rfl, ?_⟩) ?_ ?_
                      rotate_left
                      · intro w'
                        go_simp
                        with_reducible rfl
                      rotate_left
                      · simp only [Act.put, List.setIfInBounds_toArray, List.set_cons_zero, List.set_cons_succ, i64_w, i32_w]
                        rfl
                      refine pure_ (i := 3) (N := some 79) (v := ?_) (a' := ?_) #[true, true, true, true, false, false, false, false, false, false, false, false, false, false, false, false, false, false, false, false, false, false, false, false, false] rfl rfl (any_of HT_.out (by kernel_rfl)) (fun _ _ _ h => h) (Or.inl ⟨by rfl, ?_⟩) ?_ ?_
                      rotate_left
                      · intro w'
                        go_simp
                        with_reducible rfl
                      rotate_left
                      · simp only [Act.put, List.setIfInBounds_toArray, List.set_cons_zero, List.set_cons_succ, i64_w, i32_w]
                        rfl
                      refine pure_ (i := 4) (N := some 80) (v := ?_) (a' := ?_) #[true, true, true, true, true, false, false, false, false, false, false, false, false, false, false, false, false, false, false, false, false, false, false, false, false] rfl rfl (any_of HT_.out (by kernel_rfl)) (fun _ _ _ h => h) (Or.inl ⟨by rfl, ?_⟩) ?_ ?_
                      rotate_left
                      · intro w'
                        go_simp
                        with_reducible rfl
                      rotate_left
                      · simp only [Act.put, List.setIfInBounds_toArray, List.set_cons_zero, List.set_cons_succ, i64_w, i32_w]
                        rfl
                      refine pure_ (i := 5) (N := some 81) (v := ?_) (a' := ?_) #[true, true, true, true, true, true, false, false, false, false, false, false, false, false, false, false, false, false, false, false, false, false, false, false, false] rfl rfl (any_of HT_.out (by kernel_rfl)) (fun _ _ _ h => h) (Or.inl ⟨by rfl, ?_⟩) ?_ ?_
                      rotate_left
                      · intro w'
                        go_simp
                        with_reducible rfl
                      rotate_left
                      · simp only [Act.put, List.setIfInBounds_toArray, List.set_cons_zero, List.set_cons_succ, i64_w, i32_w]
                        rfl
                      refine pure_ (i := 6) (N := some 82) (v := ?_) (a' := ?_) #[true, true, true, true, true, true, true, false, false, false, false, false, false, false, false, false, false, false, false, false, false, false, false, false, false] rfl rfl (any_of HT_.out (by kernel_rfl)) (fun _ _ _ h => h) (Or.inl ⟨by rfl, ?_⟩) ?_ ?_
                      rotate_left
                      · intro w'
                        go_simp
                        with_reducible rfl
                      rotate_left
                      · simp only [Act.put, List.setIfInBounds_toArray, List.set_cons_zero, List.set_cons_succ, i64_w, i32_w]
                        rfl
                      refine pure_ (i := 7) (N := some 83) (v := ?_) (a' := ?_) #[true, true, true, true, true, true, true, true, false, false, false, false, false, false, false, false, false, false, false, false, false, false, false, false, false] rfl rfl (any_of HT_.out (by kernel_rfl)) (fun _ _ _ h => h) (Or.inl ⟨by rfl, ?_⟩) ?_ ?_
                      rotate_left
                      · intro w'
                        go_simp
                        with_reducible rfl
                      rotate_left
                      · simp only [Act.put, List.setIfInBounds_toArray, List.set_cons_zero, List.set_cons_succ, i64_w, i32_w]
                        rfl
                      refine pure_ (i := 8) (N := some 84) (v := ?_) (a' := ?_) #[true, true, true, true, true, true, true, true, true, false, false, false, false, false, false, false, false, false, false, false, false, false, false, false, false] rfl rfl (any_of HT_.out (by kernel_rfl)) (fun _ _ _ h => h) (Or.inl ⟨by rfl, ?_⟩) ?_ ?_
                      rotate_left
                      · intro w'
                        go_simp
                        with_reducible rfl
                      rotate_left
                      · simp only [Act.put, List.setIfInBounds_toArray, List.set_cons_zero, List.set_cons_succ, i64_w, i32_w]
                        rfl
                      refine pure_ (i := 9) (N := some 85) (v := ?_) (a' := ?_) #[true, true, true, true, true, true, true, true, true, true, false, false, false, false, false, false, false, false, false, false, false, false, false, false, false] rfl rfl (any_of HT_.out (by kernel_rfl)) (fun _ _ _ h => h) (Or.inl ⟨by rfl, ?_⟩) ?_ ?_
                      rotate_left
                      · intro w'
                        go_simp
                        with_reducible rfl
                      rotate_left
                      · simp only [Act.put, List.setIfInBounds_toArray, List.set_cons_zero, List.set_cons_succ, i64_w, i32_w]
                        rfl
                      refine pure_ (i := 10) (N := some 86) (v := ?_) (a' := ?_) #[true, true, true, true, true, true, true, true, true, true, true, false, false, false, false, false, false, false, false, false, false, false, false, false, false] rfl rfl (any_of HT_.out (by kernel_rfl)) (fun _ _ _ h => h) (Or.inl ⟨by rfl, ?_⟩) ?_ ?_
                      rotate_left
                      · intro w'
                        go_simp
                        with_reducible rfl
                      rotate_left
                      · simp only [Act.put, List.setIfInBounds_toArray, List.set_cons_zero, List.set_cons_succ, i64_w, i32_w]
                        rfl
                      refine pure_ (i := 12) (N := some 88) (v := ?_) (a' := ?_) #[true, true, true, true, true, true, true, true, true, true, true, false, true, false, false, false, false, false, false, false, false, false, false, false, false] rfl rfl (any_of HT_.out (by kernel_rfl)) (fun _ _ _ h => h) (Or.inl ⟨by rfl, ?_⟩) ?_ ?_
                      rotate_left
                      · intro w'
                        go_simp
                        with_reducible rfl
                      rotate_left
                      · simp only [Act.put, List.setIfInBounds_toArray, List.set_cons_zero, List.set_cons_succ, i64_w, i32_w]
                        rfl
                      refine pure_ (i := 13) (N := some 89) (v := ?_) (a' := ?_) #[true, true, true, true, true, true, true, true, true, true, true, false, true, true, false, false, false, false, false, false, false, false, false, false, false] rfl rfl (any_of HT_.out (by kernel_rfl)) (fun _ _ _ h => h) (Or.inl ⟨by rfl, ?_⟩) ?_ ?_
                      rotate_left
                      · intro w'
                        go_simp
                        with_reducible rfl
                      rotate_left
                      · simp only [Act.put, List.setIfInBounds_toArray, List.set_cons_zero, List.set_cons_succ, i64_w, i32_w]
                        rfl
                      refine pure_ (i := 16) (N := some 92) (v := ?_) (a' := ?_) #[true, true, true, true, true, true, true, true, true, true, true, false, true, true, false, false, true, false, false, false, false, false, false, false, false] rfl rfl (any_of HT_.out (by kernel_rfl)) (fun _ _ _ h => h) (Or.inl ⟨by rfl, ?_⟩) ?_ ?_
                      rotate_left
                      · intro w'
                        go_simp
                        with_reducible rfl
                      rotate_left
                      · simp only [Act.put, List.setIfInBounds_toArray, List.set_cons_zero, List.set_cons_succ, i64_w, i32_w]
                        rfl
                      refine pure_ (i := 17) (N := some 93) (v := ?_) (a' := ?_) #[true, true, true, true, true, true, true, true, true, true, true, false, true, true, false, false, true, true, false, false, false, false, false, false, false] rfl rfl (any_of HT_.out (by kernel_rfl)) (fun _ _ _ h => h) (Or.inl ⟨by rfl, ?_⟩) ?_ ?_
                      rotate_left
                      · intro w'
                        go_simp
                        with_reducible rfl
                      rotate_left
                      · simp only [Act.put, List.setIfInBounds_toArray, List.set_cons_zero, List.set_cons_succ, i64_w, i32_w]
                        rfl
                      refine pure_ (i := 19) (N := some 95) (v := ?_) (a' := ?_) #[true, true, true, true, true, true, true, true, true, true, true, false, true, true, false, false, true, true, false, true, false, false, false, false, false] rfl rfl (any_of HT_.out (by kernel_rfl)) (fun _ _ _ h => h) (Or.inl ⟨by rfl, ?_⟩) ?_ ?_
                      rotate_left
                      · intro w'
                        go_simp
                        with_reducible rfl
                      rotate_left
                      · simp only [Act.put, List.setIfInBounds_toArray, List.set_cons_zero, List.set_cons_succ, i64_w, i32_w]
                        rfl
                      refine pure_ (i := 20) (N := some 96) (v := ?_) (a' := ?_) #[true, true, true, true, true, true, true, true, true, true, true, false, true, true, false, false, true, true, false, true, true, false, false, false, false] rfl rfl (any_of HT_.out (by kernel_rfl)) (fun _ _ _ h => h) (Or.inl ⟨by rfl, ?_⟩) ?_ ?_
                      rotate_left
                      · intro w'
                        go_simp
                        with_reducible rfl
                      rotate_left
                      · simp only [Act.put, List.setIfInBounds_toArray, List.set_cons_zero, List.set_cons_succ, i64_w, i32_w]
                        rfl
                      refine take_ (i := 11) (N := some 87) (v := ?_) (a' := ?_) #[true, true, true, true, true, true, true, true, true, true, true, true, true, true, false, false, true, true, false, true, true, false, false, false, false] rfl rfl (take_ofW HT_.out HW_.out (by kernel_rfl)) (fun _ _ _ h => h) (Or.inl ⟨by rfl, ?_⟩) hHeld ?_ ?_
                      rotate_left
                      · rintro w' ⟨s0, s1, s2, s3, s4, s5, s6, s7, s8, s9, s10, s11, s12, s13, s14, s15, s16, s17, s18, s19, s20, s21, s22, s23⟩
                        go_simp
                        with_reducible rfl
                      rotate_left
                      · simp only [Act.put, List.setIfInBounds_toArray, List.set_cons_zero, List.set_cons_succ, i64_w, i32_w]
                        rfl
                      refine take_ (i := 14) (N := some 90) (v := ?_) (a' := ?_) #[true, true, true, true, true, true, true, true, true, true, true, true, true, true, true, false, true, true, false, true, true, false, false, false, false] rfl rfl (take_ofW HT_.out HW_.out (by kernel_rfl)) (fun _ _ _ h => h) (Or.inl ⟨by rfl, ?_⟩) hHeld ?_ ?_
                      rotate_left
                      · rintro w' ⟨s0, s1, s2, s3, s4, s5, s6, s7, s8, s9, s10, s11, s12, s13, s14, s15, s16, s17, s18, s19, s20, s21, s22, s23⟩
                        go_simp
                        with_reducible rfl
                      rotate_left
                      · simp only [Act.put, List.setIfInBounds_toArray, List.set_cons_zero, List.set_cons_succ, i64_w, i32_w]
                        rfl
                      refine take_ (i := 18) (N := some 94) (v := ?_) (a' := ?_) #[true, true, true, true, true, true, true, true, true, true, true, true, true, true, true, false, true, true, true, true, true, false, false, false, false] rfl rfl (take_ofW HT_.out HW_.out (by kernel_rfl)) (fun _ _ _ h => h) (Or.inl ⟨by rfl, ?_⟩) hHeld ?_ ?_
                      rotate_left
                      · rintro w' ⟨s0, s1, s2, s3, s4, s5, s6, s7, s8, s9, s10, s11, s12, s13, s14, s15, s16, s17, s18, s19, s20, s21, s22, s23⟩
                        go_simp
                        with_reducible rfl
                      rotate_left
                      · simp only [Act.put, List.setIfInBounds_toArray, List.set_cons_zero, List.set_cons_succ, i64_w, i32_w]
                        rfl
                      refine take_ (i := 21) (N := some 97) (v := ?_) (a' := ?_) #[true, true, true, true, true, true, true, true, true, true, true, true, true, true, true, false, true, true, true, true, true, true, false, false, false] rfl rfl (take_ofW HT_.out HW_.out (by kernel_rfl)) (fun _ _ _ h => h) (Or.inl ⟨by rfl, ?_⟩) hHeld ?_ ?_
                      rotate_left
                      · rintro w' ⟨s0, s1, s2, s3, s4, s5, s6, s7, s8, s9, s10, s11, s12, s13, s14, s15, s16, s17, s18, s19, s20, s21, s22, s23⟩
                        go_simp
                        with_reducible rfl
                      rotate_left
                      · simp only [Act.put, List.setIfInBounds_toArray, List.set_cons_zero, List.set_cons_succ, i64_w, i32_w]
                        rfl
                      refine one_ (i := 15) (N := some 91) #[true, true, true, true, true, true, true, true, true, true, true, true, true, true, true, true, true, true, true, true, true, true, false, false, false] rfl rfl (one_of HT_.out (by kernel_rfl)) (by decide) (fun K hK => ?_)
                      refine goes_ Try.func18 (by kernel_rfl) rfl #[.agg #[.int .i64 ((rd_T34 l0 0).f0.f0), .int .i64 ((rd_T34 l0 0).f0.f1), .int .i64 ((rd_T34 l0 0).f1), .int .i64 ((rd_T34 l0 0).f2), .int .i64 ((rd_T34 l0 0).f3), .int .i64 ((rd_T34 l0 0).f4)], .agg #[.int .i64 ((rd_T34 l1 0).f0.f0), .int .i64 ((rd_T34 l1 0).f0.f1), .int .i64 ((rd_T34 l1 0).f1), .int .i64 ((rd_T34 l1 0).f2), .int .i64 ((rd_T34 l1 0).f3), .int .i64 ((rd_T34 l1 0).f4)]] (by rfl) rfl rfl (by (try simp only [List.map_toArray, List.map_cons, List.map_nil]); first | done | rfl | (simp only [List.length_drop, List.length_take]; rfl)) ?_
                      with_reducible refine (rank_Compare.calls ((rd_T34 l0 0).f0.f0) ((rd_T34 l0 0).f0.f1) ((rd_T34 l0 0).f1) ((rd_T34 l0 0).f2) ((rd_T34 l0 0).f3) ((rd_T34 l0 0).f4) ((rd_T34 l1 0).f0.f0) ((rd_T34 l1 0).f0.f1) ((rd_T34 l1 0).f1) ((rd_T34 l1 0).f2) ((rd_T34 l1 0).f3) ((rd_T34 l1 0).f4) t293 _ A70.out).mono ?_
                      rintro e w73 ⟨rfl, hb⟩
                      refine ⟨_, rfl, ?_⟩
                      have n0_ := Aside0.mk (Kd.R_below (by (with_reducible repeat (first | apply Kd.R_alloc | apply Kd.R_drewN | apply Kd.R_drew)); exact HO_9.out) hb)
                      have n1_ := Aside0.mk (Kd.R_below (by (with_reducible repeat (first | apply Kd.R_alloc | apply Kd.R_drewN | apply Kd.R_drew)); exact HO_10.out) hb)
                      have n2_ := Aside0.mk (Kd.R_below (by (with_reducible repeat (first | apply Kd.R_alloc | apply Kd.R_drewN | apply Kd.R_drew)); exact HO_11.out) hb)
                      have n3_ := Aside0.mk (Kd.R_below (by (with_reducible repeat (first | apply Kd.R_alloc | apply Kd.R_drewN | apply Kd.R_drew)); exact HO_16.out) hb)
                      have n4_ := Aside0.mk (blk_below (g := gb262) (o := .cells #[.int .i64 a3_0, .int .i64 a3_1] 24 (0, 0)) (by (with_reducible repeat (first | refine blk_drewN ?_ _ | refine blk_drew ?_ | refine blk_alloc ?_ _)); exact BK262.out) hb)
                      have n5_ := Aside0.mk (below_step (by repeat (first | (with_reducible first | exact HB.out | apply below_alloc | apply pw_below_drewN | apply below_drew1 | refine below_set ?_ GE262.out) | exact HB.out)) hb)
                      clear HO_9
                      clear HO_10
                      clear HO_11
                      clear HO_16
                      clear BK262
                      clear HB
                      have HO_9 := n0_
                      have HO_10 := n1_
                      have HO_11 := n2_
                      have HO_16 := n3_
                      have BK262 := n4_
                      have HB := n5_
                      clear n0_ n1_ n2_ n3_ n4_ n5_
                      (try clear hb)
                      (try clear hb2)
                      (try clear hk)
                      (try clear hi)
                      refine hK.out _ _ ⟨((HB.out.cell (World.block_lt_of_cell? w _ hw291_0)).trans hw291_0), ((HB.out.cell (World.block_lt_of_cell? w _ hw291_1)).trans hw291_1), ((HB.out.cell (World.block_lt_of_cell? w _ hw291_2)).trans hw291_2), ((HB.out.cell (World.block_lt_of_cell? w _ hw291_3)).trans hw291_3), ((HB.out.cell (World.block_lt_of_cell? w _ hw291_4)).trans hw291_4), ((HB.out.cell (World.block_lt_of_cell? w _ hw291_5)).trans hw291_5), ((HB.out.cell (World.block_lt_of_cell? w _ hw292_0)).trans hw292_0), ((HB.out.cell (World.block_lt_of_cell? w _ hw292_1)).trans hw292_1), ((HB.out.cell (World.block_lt_of_cell? w _ hw292_2)).trans hw292_2), ((HB.out.cell (World.block_lt_of_cell? w _ hw292_3)).trans hw292_3), ((HB.out.cell (World.block_lt_of_cell? w _ hw292_4)).trans hw292_4), ((HB.out.cell (World.block_lt_of_cell? w _ hw292_5)).trans hw292_5), ((HB.out.cell (World.block_lt_of_cell? w _ hw294_0)).trans hw294_0), ((HB.out.cell (World.block_lt_of_cell? w _ hw294_1)).trans hw294_1), ((HB.out.cell (World.block_lt_of_cell? w _ hw294_2)).trans hw294_2), ((HB.out.cell (World.block_lt_of_cell? w _ hw294_3)).trans hw294_3), ((HB.out.cell (World.block_lt_of_cell? w _ hw294_4)).trans hw294_4), ((HB.out.cell (World.block_lt_of_cell? w _ hw294_5)).trans hw294_5), ((HB.out.cell (World.block_lt_of_cell? w _ hw295_0)).trans hw295_0), ((HB.out.cell (World.block_lt_of_cell? w _ hw295_1)).trans hw295_1), ((HB.out.cell (World.block_lt_of_cell? w _ hw295_2)).trans hw295_2), ((HB.out.cell (World.block_lt_of_cell? w _ hw295_3)).trans hw295_3), ((HB.out.cell (World.block_lt_of_cell? w _ hw295_4)).trans hw295_4), ((HB.out.cell (World.block_lt_of_cell? w _ hw295_5)).trans hw295_5)⟩ (fun hHeld => ?_)
                      clear hK K
                      refine norm_ (a' := ?_) ?_ ?_
                      rotate_left
                      · show Act.put _ (some 91) _ = _
                        simp only [Act.put, List.setIfInBounds_toArray, List.set_cons_zero, List.set_cons_succ, i64_w, i32_w]
                        rfl
                      refine one_ (i := 22) (N := some 98) #[true, true, true, true, true, true, true, true, true, true, true, true, true, true, true, true, true, true, true, true, true, true, true, false, false] rfl rfl (one_of HT_.out (by kernel_rfl)) (by decide) (fun K hK => ?_)
                      refine goes_ Try.func19 (by kernel_rfl) rfl #[.agg #[.int .i64 ((rd_T34 l0 0).f0.f0), .int .i64 ((rd_T34 l0 0).f0.f1), .int .i64 ((rd_T34 l0 0).f1), .int .i64 ((rd_T34 l0 0).f2), .int .i64 ((rd_T34 l0 0).f3), .int .i64 ((rd_T34 l0 0).f4)], .agg #[.int .i64 ((rd_T34 l1 0).f0.f0), .int .i64 ((rd_T34 l1 0).f0.f1), .int .i64 ((rd_T34 l1 0).f1), .int .i64 ((rd_T34 l1 0).f2), .int .i64 ((rd_T34 l1 0).f3), .int .i64 ((rd_T34 l1 0).f4)]] (by rfl) rfl rfl (by (try simp only [List.map_toArray, List.map_cons, List.map_nil]); first | done | rfl | (simp only [List.length_drop, List.length_take]; rfl)) ?_
                      with_reducible refine (watchmanref07_Compare.calls kj14 ((rd_T34 l0 0).f0.f0) ((rd_T34 l0 0).f0.f1) ((rd_T34 l0 0).f1) ((rd_T34 l0 0).f2) ((rd_T34 l0 0).f3) ((rd_T34 l0 0).f4) ((rd_T34 l1 0).f0.f0) ((rd_T34 l1 0).f0.f1) ((rd_T34 l1 0).f1) ((rd_T34 l1 0).f2) ((rd_T34 l1 0).f3) ((rd_T34 l1 0).f4) t296 _ A71.out).mono ?_
                      rintro e w74 ⟨rfl, hb⟩
                      refine ⟨_, rfl, ?_⟩
                      have n0_ := Aside0.mk (Kd.R_below (by (with_reducible repeat (first | apply Kd.R_alloc | apply Kd.R_drewN | apply Kd.R_drew)); exact HO_9.out) hb)
                      have n1_ := Aside0.mk (Kd.R_below (by (with_reducible repeat (first | apply Kd.R_alloc | apply Kd.R_drewN | apply Kd.R_drew)); exact HO_10.out) hb)
                      have n2_ := Aside0.mk (Kd.R_below (by (with_reducible repeat (first | apply Kd.R_alloc | apply Kd.R_drewN | apply Kd.R_drew)); exact HO_11.out) hb)
                      have n3_ := Aside0.mk (Kd.R_below (by (with_reducible repeat (first | apply Kd.R_alloc | apply Kd.R_drewN | apply Kd.R_drew)); exact HO_16.out) hb)
                      have n4_ := Aside0.mk (blk_below (g := gb262) (o := .cells #[.int .i64 a3_0, .int .i64 a3_1] 24 (0, 0)) (by (with_reducible repeat (first | refine blk_drewN ?_ _ | refine blk_drew ?_ | refine blk_alloc ?_ _)); exact BK262.out) hb)
                      have n5_ := Aside0.mk (below_step (by repeat (first | (with_reducible first | exact HB.out | apply below_alloc | apply pw_below_drewN | apply below_drew1 | refine below_set ?_ GE262.out) | exact HB.out)) hb)
                      clear HO_9
                      clear HO_10
                      clear HO_11
                      clear HO_16
                      clear BK262
                      clear HB
                      have HO_9 := n0_
                      have HO_10 := n1_
                      have HO_11 := n2_
                      have HO_16 := n3_
                      have BK262 := n4_
                      have HB := n5_
                      clear n0_ n1_ n2_ n3_ n4_ n5_
                      (try clear hb)
                      (try clear hb2)
                      (try clear hk)
                      (try clear hi)
                      refine hK.out _ _ ⟨((HB.out.cell (World.block_lt_of_cell? w _ hw291_0)).trans hw291_0), ((HB.out.cell (World.block_lt_of_cell? w _ hw291_1)).trans hw291_1), ((HB.out.cell (World.block_lt_of_cell? w _ hw291_2)).trans hw291_2), ((HB.out.cell (World.block_lt_of_cell? w _ hw291_3)).trans hw291_3), ((HB.out.cell (World.block_lt_of_cell? w _ hw291_4)).trans hw291_4), ((HB.out.cell (World.block_lt_of_cell? w _ hw291_5)).trans hw291_5), ((HB.out.cell (World.block_lt_of_cell? w _ hw292_0)).trans hw292_0), ((HB.out.cell (World.block_lt_of_cell? w _ hw292_1)).trans hw292_1), ((HB.out.cell (World.block_lt_of_cell? w _ hw292_2)).trans hw292_2), ((HB.out.cell (World.block_lt_of_cell? w _ hw292_3)).trans hw292_3), ((HB.out.cell (World.block_lt_of_cell? w _ hw292_4)).trans hw292_4), ((HB.out.cell (World.block_lt_of_cell? w _ hw292_5)).trans hw292_5), ((HB.out.cell (World.block_lt_of_cell? w _ hw294_0)).trans hw294_0), ((HB.out.cell (World.block_lt_of_cell? w _ hw294_1)).trans hw294_1), ((HB.out.cell (World.block_lt_of_cell? w _ hw294_2)).trans hw294_2), ((HB.out.cell (World.block_lt_of_cell? w _ hw294_3)).trans hw294_3), ((HB.out.cell (World.block_lt_of_cell? w _ hw294_4)).trans hw294_4), ((HB.out.cell (World.block_lt_of_cell? w _ hw294_5)).trans hw294_5), ((HB.out.cell (World.block_lt_of_cell? w _ hw295_0)).trans hw295_0), ((HB.out.cell (World.block_lt_of_cell? w _ hw295_1)).trans hw295_1), ((HB.out.cell (World.block_lt_of_cell? w _ hw295_2)).trans hw295_2), ((HB.out.cell (World.block_lt_of_cell? w _ hw295_3)).trans hw295_3), ((HB.out.cell (World.block_lt_of_cell? w _ hw295_4)).trans hw295_4), ((HB.out.cell (World.block_lt_of_cell? w _ hw295_5)).trans hw295_5)⟩ (fun hHeld => ?_)
                      clear hK K
                      refine norm_ (a' := ?_) ?_ ?_
                      rotate_left
                      · show Act.put _ (some 98) _ = _
                        simp only [Act.put, List.setIfInBounds_toArray, List.set_cons_zero, List.set_cons_succ, i64_w, i32_w]
                        rfl
                      refine pure_ (i := 23) (N := some 99) (v := ?_) (a' := ?_) #[true, true, true, true, true, true, true, true, true, true, true, true, true, true, true, true, true, true, true, true, true, true, true, true, false] rfl rfl (any_of HT_.out (by kernel_rfl)) (fun _ _ _ h => h) (Or.inl ⟨by rfl, ?_⟩) ?_ ?_
                      rotate_left
                      · intro w'
                        go_simp
                        with_reducible rfl
                      rotate_left
                      · simp only [Act.put, List.setIfInBounds_toArray, List.set_cons_zero, List.set_cons_succ, i64_w, i32_w]
                        rfl
                      refine pure_ (i := 24) (N := some 100) (v := ?_) (a' := ?_) #[true, true, true, true, true, true, true, true, true, true, true, true, true, true, true, true, true, true, true, true, true, true, true, true, true] rfl rfl (any_of HT_.out (by kernel_rfl)) (fun _ _ _ h => h) (Or.inl ⟨by rfl, ?_⟩) ?_ ?_
                      rotate_left
                      · intro w'
                        go_simp
                        with_reducible rfl
                      rotate_left
                      · simp only [Act.put, List.setIfInBounds_toArray, List.set_cons_zero, List.set_cons_succ, i64_w, i32_w]
                        rfl
                      refine done_ (done_of HT_.out (by kernel_rfl)) ?_
                      try go_wp2
                      go_meet
                      case rel => exact ⟨_, ((t293 != t296)), (by first | rfl | (simp; done) | (simp [*]; done)), H', ⟨by have := HJ4.out; have := HJ14.out; first | omega | exact Nat.le_refl _⟩, ⟨by (with_reducible repeat (first | apply Kd.R_alloc | apply Kd.R_drewN | apply Kd.R_drew)); exact HO_9.out⟩, ⟨by (with_reducible repeat (first | apply Kd.R_alloc | apply Kd.R_drewN | apply Kd.R_drew)); exact HO_10.out⟩, ⟨by (with_reducible repeat (first | apply Kd.R_alloc | apply Kd.R_drewN | apply Kd.R_drew)); exact HO_11.out⟩, ⟨by (with_reducible repeat (first | apply Kd.R_alloc | apply Kd.R_drewN | apply Kd.R_drew)); exact HO_16.out⟩, ⟨by (with_reducible repeat (first | refine blk_drewN ?_ _ | refine blk_drew ?_ | refine blk_alloc ?_ _)); exact BK262.out⟩, ⟨by repeat (first | (with_reducible first | exact HB.out | apply below_alloc | apply pw_below_drewN | apply below_drew1 | refine below_set ?_ GE262.out) | exact HB.out)⟩⟩
                    · rw [if_neg c69] at H
                      exact absurd H (by simp)
                  · rw [if_neg c68] at H
                    exact absurd H (by simp)
                · rw [if_neg c67] at H
                  have c67b0 : decide (0 < (l1.length : Int)) = false := decide_eq_false c67
                  have c67b1 : decide (0 < l1.length) = false := decide_eq_false (by omega)
                  clear c67
                  have H' := Aside0.mk H
                  clear H
                  try go_wp2
                  have n0_ := Aside0.mk (Kd.R_drew HO_9.out)
                  have n1_ := Aside0.mk (Kd.R_drew HO_10.out)
                  have n2_ := Aside0.mk (Kd.R_drew HO_11.out)
                  have n3_ := Aside0.mk (Kd.R_drew HO_16.out)
                  have n4_ := Aside0.mk (blk_drew BK262.out)
                  have n5_ := Aside0.mk (below_drew1 HB.out)
                  clear HO_9
                  clear HO_10
                  clear HO_11
                  clear HO_16
                  clear BK262
                  clear HB
                  have HO_9 := n0_
                  have HO_10 := n1_
                  have HO_11 := n2_
                  have HO_16 := n3_
                  have BK262 := n4_
                  have HB := n5_
                  clear n0_ n1_ n2_ n3_ n4_ n5_
                  refine start_ (n := 25) (S := fun w' => True) (ds := []) #[false, false, false, false, false, false, false, false, false, false, false, false, false, false, false, false, false, false, false, false, false, false, false, false, false] (by kernel_rfl) rfl rfl trivial (fun hHeld => ?_); refine with_tabW watchmanlaw07_RankDoes.tab10 watchmanlaw07_RankDoes.bits10 (fun HT_ HW_ => ?_)
                  generalize wc.drew = w75 at HO_9 HO_10 HO_11 HO_16 BK262 HB hHeld ⊢
                  refine pure_ (i := 0) (N := some 76) (v := ?_) (a' := ?_) #[true, false, false, false, false, false, false, false, false, false, false, false, false, false, false, false, false, false, false, false, false, false, false, false, false] rfl rfl (any_of HT_.out (by kernel_rfl)) (fun _ _ _ h => h) (Or.inl ⟨by rfl, ?_⟩) ?_ ?_
                  rotate_left
                  · intro w'
                    go_simp
                    with_reducible rfl
                  rotate_left
                  · simp only [Act.put, List.setIfInBounds_toArray, List.set_cons_zero, List.set_cons_succ, i64_w, i32_w]
                    rfl
                  refine pure_ (i := 1) (N := some 77) (v := ?_) (a' := ?_) #[true, true, false, false, false, false, false, false, false, false, false, false, false, false, false, false, false, false, false, false, false, false, false, false, false] rfl rfl (any_of HT_.out (by kernel_rfl)) (fun _ _ _ h => h) (Or.inl ⟨by rfl, ?_⟩) ?_ ?_
                  rotate_left
                  · intro w'
                    go_simp
                    with_reducible rfl
                  rotate_left
                  · simp only [Act.put, List.setIfInBounds_toArray, List.set_cons_zero, List.set_cons_succ, i64_w, i32_w]
                    rfl
                  refine pure_ (i := 2) (N := some 78) (v := ?_) (a' := ?_) #[true, true, true, false, false, false, false, false, false, false, false, false, false, false, false, false, false, false, false, false, false, false, false, false, false] rfl rfl (any_of HT_.out (by kernel_rfl)) (fun _ _ _ h => h) (Or.inl ⟨by rfl, ?_⟩) ?_ ?_
                  rotate_left
                  · intro w'
                    go_simp
                    with_reducible rfl
                  rotate_left
                  · simp only [Act.put, List.setIfInBounds_toArray, List.set_cons_zero, List.set_cons_succ, i64_w, i32_w]
                    rfl
                  refine pure_ (i := 3) (N := some 79) (v := ?_) (a' := ?_) #[true, true, true, true, false, false, false, false, false, false, false, false, false, false, false, false, false, false, false, false, false, false, false, false, false] rfl rfl (any_of HT_.out (by kernel_rfl)) (fun _ _ _ h => h) (Or.inl ⟨by rfl, ?_⟩) ?_ ?_
                  rotate_left
                  · intro w'
                    go_simp
                    with_reducible rfl
                  rotate_left
                  · simp only [Act.put, List.setIfInBounds_toArray, List.set_cons_zero, List.set_cons_succ, i64_w, i32_w]
                    rfl
                  refine pure_ (i := 4) (N := some 80) (v := ?_) (a' := ?_) #[true, true, true, true, true, false, false, false, false, false, false, false, false, false, false, false, false, false, false, false, false, false, false, false, false] rfl rfl (any_of HT_.out (by kernel_rfl)) (fun _ _ _ h => h) (Or.inl ⟨by rfl, ?_⟩) ?_ ?_
                  rotate_left
                  · intro w'
                    go_simp
                    with_reducible rfl
                  rotate_left
                  · simp only [Act.put, List.setIfInBounds_toArray, List.set_cons_zero, List.set_cons_succ, i64_w, i32_w]
                    rfl
                  refine pure_ (i := 5) (N := some 81) (v := ?_) (a' := ?_) #[true, true, true, true, true, true, false, false, false, false, false, false, false, false, false, false, false, false, false, false, false, false, false, false, false] rfl rfl (any_of HT_.out (by kernel_rfl)) (fun _ _ _ h => h) (Or.inl ⟨by rfl, ?_⟩) ?_ ?_
                  rotate_left
                  · intro w'
                    go_simp
                    with_reducible rfl
                  rotate_left
                  · simp only [Act.put, List.setIfInBounds_toArray, List.set_cons_zero, List.set_cons_succ, i64_w, i32_w]
                    rfl
                  refine pure_ (i := 6) (N := some 82) (v := ?_) (a' := ?_) #[true, true, true, true, true, true, true, false, false, false, false, false, false, false, false, false, false, false, false, false, false, false, false, false, false] rfl rfl (any_of HT_.out (by kernel_rfl)) (fun _ _ _ h => h) (Or.inl ⟨by rfl, ?_⟩) ?_ ?_
                  rotate_left
                  · intro w'
                    go_simp
                    with_reducible rfl
                  rotate_left
                  · simp only [Act.put, List.setIfInBounds_toArray, List.set_cons_zero, List.set_cons_succ, i64_w, i32_w]
                    rfl
                  refine pure_ (i := 7) (N := some 83) (v := ?_) (a' := ?_) #[true, true, true, true, true, true, true, true, false, false, false, false, false, false, false, false, false, false, false, false, false, false, false, false, false] rfl rfl (any_of HT_.out (by kernel_rfl)) (fun _ _ _ h => h) (Or.inl ⟨by rfl, ?_⟩) ?_ ?_
                  rotate_left
                  · intro w'
                    go_simp
                    with_reducible rfl
                  rotate_left
                  · simp only [Act.put, List.setIfInBounds_toArray, List.set_cons_zero, List.set_cons_succ, i64_w, i32_w]
                    rfl
                  refine pure_ (i := 8) (N := some 84) (v := ?_) (a' := ?_) #[true, true, true, true, true, true, true, true, true, false, false, false, false, false, false, false, false, false, false, false, false, false, false, false, false] rfl rfl (any_of HT_.out (by kernel_rfl)) (fun _ _ _ h => h) (Or.inl ⟨by rfl, ?_⟩) ?_ ?_
                  rotate_left
                  · intro w'
                    go_simp
                    with_reducible rfl
                  rotate_left
                  · simp only [Act.put, List.setIfInBounds_toArray, List.set_cons_zero, List.set_cons_succ, i64_w, i32_w]
                    rfl
                  refine pure_ (i := 9) (N := some 85) (v := undef) (a' := ?_) #[true, true, true, true, true, true, true, true, true, true, false, false, false, false, false, false, false, false, false, false, false, false, false, false, false] rfl rfl (any_of HT_.out (by kernel_rfl)) (fun _ _ _ h => h) (Or.inr ⟨by rfl, rfl⟩) ?_ ?_
                  rotate_left
                  · simp only [Act.put, List.setIfInBounds_toArray, List.set_cons_zero, List.set_cons_succ, i64_w, i32_w]
                    rfl
                  refine pure_ (i := 10) (N := some 86) (v := undef) (a' := ?_) #[true, true, true, true, true, true, true, true, true, true, true, false, false, false, false, false, false, false, false, false, false, false, false, false, false] rfl rfl (any_of HT_.out (by kernel_rfl)) (fun _ _ _ h => h) (Or.inr ⟨by rfl, rfl⟩) ?_ ?_
                  rotate_left
                  · simp only [Act.put, List.setIfInBounds_toArray, List.set_cons_zero, List.set_cons_succ, i64_w, i32_w]
                    rfl
                  refine pure_ (i := 11) (N := some 87) (v := undef) (a' := ?_) #[true, true, true, true, true, true, true, true, true, true, true, true, false, false, false, false, false, false, false, false, false, false, false, false, false] rfl rfl (any_of HT_.out (by kernel_rfl)) (fun _ _ _ h => h) (Or.inr ⟨by rfl, rfl⟩) ?_ ?_
                  rotate_left
                  · simp only [Act.put, List.setIfInBounds_toArray, List.set_cons_zero, List.set_cons_succ, i64_w, i32_w]
                    rfl
                  refine pure_ (i := 12) (N := some 88) (v := undef) (a' := ?_) #[true, true, true, true, true, true, true, true, true, true, true, true, true, false, false, false, false, false, false, false, false, false, false, false, false] rfl rfl (any_of HT_.out (by kernel_rfl)) (fun _ _ _ h => h) (Or.inr ⟨by rfl, rfl⟩) ?_ ?_
                  rotate_left
                  · simp only [Act.put, List.setIfInBounds_toArray, List.set_cons_zero, List.set_cons_succ, i64_w, i32_w]
                    rfl
                  refine pure_ (i := 13) (N := some 89) (v := undef) (a' := ?_) #[true, true, true, true, true, true, true, true, true, true, true, true, true, true, false, false, false, false, false, false, false, false, false, false, false] rfl rfl (any_of HT_.out (by kernel_rfl)) (fun _ _ _ h => h) (Or.inr ⟨by rfl, rfl⟩) ?_ ?_
                  rotate_left
                  · simp only [Act.put, List.setIfInBounds_toArray, List.set_cons_zero, List.set_cons_succ, i64_w, i32_w]
                    rfl
                  refine pure_ (i := 14) (N := some 90) (v := undef) (a' := ?_) #[true, true, true, true, true, true, true, true, true, true, true, true, true, true, true, false, false, false, false, false, false, false, false, false, false] rfl rfl (any_of HT_.out (by kernel_rfl)) (fun _ _ _ h => h) (Or.inr ⟨by rfl, rfl⟩) ?_ ?_
                  rotate_left
                  · simp only [Act.put, List.setIfInBounds_toArray, List.set_cons_zero, List.set_cons_succ, i64_w, i32_w]
                    rfl
                  refine pure_ (i := 15) (N := some 91) (v := undef) (a' := ?_) #[true, true, true, true, true, true, true, true, true, true, true, true, true, true, true, true, false, false, false, false, false, false, false, false, false] rfl rfl (any_of HT_.out (by kernel_rfl)) (fun _ _ _ h => h) (Or.inr ⟨by rfl, rfl⟩) ?_ ?_
                  rotate_left
                  · simp only [Act.put, List.setIfInBounds_toArray, List.set_cons_zero, List.set_cons_succ, i64_w, i32_w]
                    rfl
                  refine pure_ (i := 16) (N := some 92) (v := undef) (a' := ?_) #[true, true, true, true, true, true, true, true, true, true, true, true, true, true, true, true, true, false, false, false, false, false, false, false, false] rfl rfl (any_of HT_.out (by kernel_rfl)) (fun _ _ _ h => h) (Or.inr ⟨by rfl, rfl⟩) ?_ ?_
                  rotate_left
                  · simp only [Act.put, List.setIfInBounds_toArray, List.set_cons_zero, List.set_cons_succ, i64_w, i32_w]
                    rfl
                  refine pure_ (i := 17) (N := some 93) (v := undef) (a' := ?_) #[true, true, true, true, true, true, true, true, true, true, true, true, true, true, true, true, true, true, false, false, false, false, false, false, false] rfl rfl (any_of HT_.out (by kernel_rfl)) (fun _ _ _ h => h) (Or.inr ⟨by rfl, rfl⟩) ?_ ?_
                  rotate_left
                  · simp only [Act.put, List.setIfInBounds_toArray, List.set_cons_zero, List.set_cons_succ, i64_w, i32_w]
                    rfl
                  refine pure_ (i := 18) (N := some 94) (v := undef) (a' := ?_) #[true, true, true, true, true, true, true, true, true, true, true, true, true, true, true, true, true, true, true, false, false, false, false, false, false] rfl rfl (any_of HT_.out (by kernel_rfl)) (fun _ _ _ h => h) (Or.inr ⟨by rfl, rfl⟩) ?_ ?_
                  rotate_left
                  · simp only [Act.put, List.setIfInBounds_toArray, List.set_cons_zero, List.set_cons_succ, i64_w, i32_w]
                    rfl
                  refine pure_ (i := 19) (N := some 95) (v := undef) (a' := ?_) #[true, true, true, true, true, true, true, true, true, true, true, true, true, true, true, true, true, true, true, true, false, false, false, false, false] rfl rfl (any_of HT_.out (by kernel_rfl)) (fun _ _ _ h => h) (Or.inr ⟨by rfl, rfl⟩) ?_ ?_
                  rotate_left
                  · simp only [Act.put, List.setIfInBounds_toArray, List.set_cons_zero, List.set_cons_succ, i64_w, i32_w]
                    rfl
                  refine pure_ (i := 20) (N := some 96) (v := undef) (a' := ?_) #[true, true, true, true, true, true, true, true, true, true, true, true, true, true, true, true, true, true, true, true, true, false, false, false, false] rfl rfl (any_of HT_.out (by kernel_rfl)) (fun _ _ _ h => h) (Or.inr ⟨by rfl, rfl⟩) ?_ ?_
                  rotate_left
                  · simp only [Act.put, List.setIfInBounds_toArray, List.set_cons_zero, List.set_cons_succ, i64_w, i32_w]
                    rfl
                  refine pure_ (i := 21) (N := some 97) (v := undef) (a' := ?_) #[true, true, true, true, true, true, true, true, true, true, true, true, true, true, true, true, true, true, true, true, true, true, false, false, false] rfl rfl (any_of HT_.out (by kernel_rfl)) (fun _ _ _ h => h) (Or.inr ⟨by rfl, rfl⟩) ?_ ?_
                  rotate_left
                  · simp only [Act.put, List.setIfInBounds_toArray, List.set_cons_zero, List.set_cons_succ, i64_w, i32_w]
                    rfl
                  refine pure_ (i := 22) (N := some 98) (v := undef) (a' := ?_) #[true, true, true, true, true, true, true, true, true, true, true, true, true, true, true, true, true, true, true, true, true, true, true, false, false] rfl rfl (any_of HT_.out (by kernel_rfl)) (fun _ _ _ h => h) (Or.inr ⟨by rfl, rfl⟩) ?_ ?_
                  rotate_left
                  · simp only [Act.put, List.setIfInBounds_toArray, List.set_cons_zero, List.set_cons_succ, i64_w, i32_w]
                    rfl
                  refine pure_ (i := 23) (N := some 99) (v := undef) (a' := ?_) #[true, true, true, true, true, true, true, true, true, true, true, true, true, true, true, true, true, true, true, true, true, true, true, true, false] rfl rfl (any_of HT_.out (by kernel_rfl)) (fun _ _ _ h => h) (Or.inr ⟨by rfl, rfl⟩) ?_ ?_
                  rotate_left
                  · simp only [Act.put, List.setIfInBounds_toArray, List.set_cons_zero, List.set_cons_succ, i64_w, i32_w]
                    rfl
                  refine pure_ (i := 24) (N := some 100) (v := ?_) (a' := ?_) #[true, true, true, true, true, true, true, true, true, true, true, true, true, true, true, true, true, true, true, true, true, true, true, true, true] rfl rfl (any_of HT_.out (by kernel_rfl)) (fun _ _ _ h => h) (Or.inl ⟨by rfl, ?_⟩) ?_ ?_
                  rotate_left
                  · intro w'
                    go_simp
                    with_reducible rfl
                  rotate_left
                  · simp only [Act.put, List.setIfInBounds_toArray, List.set_cons_zero, List.set_cons_succ, i64_w, i32_w]
                    rfl
                  refine done_ (done_of HT_.out (by kernel_rfl)) ?_
                  try go_wp2
                  go_meet
                  case rel => exact ⟨_, (false), (by first | rfl | (simp; done) | (simp [*]; done)), H', ⟨by have := HJ4.out; have := HJ14.out; first | omega | exact Nat.le_refl _⟩, ⟨by (with_reducible repeat (first | apply Kd.R_alloc | apply Kd.R_drewN | apply Kd.R_drew)); exact HO_9.out⟩, ⟨by (with_reducible repeat (first | apply Kd.R_alloc | apply Kd.R_drewN | apply Kd.R_drew)); exact HO_10.out⟩, ⟨by (with_reducible repeat (first | apply Kd.R_alloc | apply Kd.R_drewN | apply Kd.R_drew)); exact HO_11.out⟩, ⟨by (with_reducible repeat (first | apply Kd.R_alloc | apply Kd.R_drewN | apply Kd.R_drew)); exact HO_16.out⟩, ⟨by (with_reducible repeat (first | refine blk_drewN ?_ _ | refine blk_drew ?_ | refine blk_alloc ?_ _)); exact BK262.out⟩, ⟨by repeat (first | (with_reducible first | exact HB.out | apply below_alloc | apply pw_below_drewN | apply below_drew1 | refine below_set ?_ GE262.out) | exact HB.out)⟩⟩
              · rw [if_neg c66] at H
                have c66b0 : decide (0 < (l0.length : Int)) = false := decide_eq_false c66
                have c66b1 : decide (0 < l0.length) = false := decide_eq_false (by omega)
                clear c66
                (first | rw [c66b0] | (simp only [i64_w, i32_w]; rw [c66b0]) | skip)
                have H' := Aside0.mk H
                clear H
                try go_wp2
                have n0_ := Aside0.mk (Kd.R_drew HO_9.out)
                have n1_ := Aside0.mk (Kd.R_drew HO_10.out)
                have n2_ := Aside0.mk (Kd.R_drew HO_11.out)
                have n3_ := Aside0.mk (Kd.R_drew HO_16.out)
                have n4_ := Aside0.mk (blk_drew BK262.out)
                have n5_ := Aside0.mk (below_drew1 HB.out)
                clear HO_9
                clear HO_10
                clear HO_11
                clear HO_16
                clear BK262
                clear HB
                have HO_9 := n0_
                have HO_10 := n1_
                have HO_11 := n2_
                have HO_16 := n3_
                have BK262 := n4_
                have HB := n5_
                clear n0_ n1_ n2_ n3_ n4_ n5_
                refine start_ (n := 25) (S := fun w' => True) (ds := []) #[false, false, false, false, false, false, false, false, false, false, false, false, false, false, false, false, false, false, false, false, false, false, false, false, false] (by kernel_rfl) rfl rfl trivial (fun hHeld => ?_); refine with_tabW watchmanlaw07_RankDoes.tab10 watchmanlaw07_RankDoes.bits10 (fun HT_ HW_ => ?_)
                generalize wc.drew = w76 at HO_9 HO_10 HO_11 HO_16 BK262 HB hHeld ⊢
                refine pure_ (i := 0) (N := some 76) (v := ?_) (a' := ?_) #[true, false, false, false, false, false, false, false, false, false, false, false, false, false, false, false, false, false, false, false, false, false, false, false, false] rfl rfl (any_of HT_.out (by kernel_rfl)) (fun _ _ _ h => h) (Or.inl ⟨by rfl, ?_⟩) ?_ ?_
                rotate_left
                · intro w'
                  go_simp
                  with_reducible rfl
                rotate_left
                · simp only [Act.put, List.setIfInBounds_toArray, List.set_cons_zero, List.set_cons_succ, i64_w, i32_w]
                  rfl
                refine pure_ (i := 1) (N := some 77) (v := ?_) (a' := ?_) #[true, true, false, false, false, false, false, false, false, false, false, false, false, false, false, false, false, false, false, false, false, false, false, false, false] rfl rfl (any_of HT_.out (by kernel_rfl)) (fun _ _ _ h => h) (Or.inl ⟨by rfl, ?_⟩) ?_ ?_
                rotate_left
                · intro w'
                  go_simp
                  with_reducible rfl
                rotate_left
                · simp only [Act.put, List.setIfInBounds_toArray, List.set_cons_zero, List.set_cons_succ, i64_w, i32_w]
                  rfl
                refine pure_ (i := 2) (N := some 78) (v := ?_) (a' := ?_) #[true, true, true, false, false, false, false, false, false, false, false, false, false, false, false, false, false, false, false, false, false, false, false, false, false] rfl rfl (any_of HT_.out (by kernel_rfl)) (fun _ _ _ h => h) (Or.inl ⟨by rfl, ?_⟩) ?_ ?_
                rotate_left
                · intro w'
                  go_simp
                  with_reducible rfl
                rotate_left
                · simp only [Act.put, List.setIfInBounds_toArray, List.set_cons_zero, List.set_cons_succ, i64_w, i32_w]
                  rfl
                refine pure_ (i := 3) (N := some 79) (v := ?_) (a' := ?_) #[true, true, true, true, false, false, false, false, false, false, false, false, false, false, false, false, false, false, false, false, false, false, false, false, false] rfl rfl (any_of HT_.out (by kernel_rfl)) (fun _ _ _ h => h) (Or.inl ⟨by rfl, ?_⟩) ?_ ?_
                rotate_left
                · intro w'
                  go_simp
                  with_reducible rfl
                rotate_left
                · simp only [Act.put, List.setIfInBounds_toArray, List.set_cons_zero, List.set_cons_succ, i64_w, i32_w]
                  rfl
                refine pure_ (i := 4) (N := some 80) (v := undef) (a' := ?_) #[true, true, true, true, true, false, false, false, false, false, false, false, false, false, false, false, false, false, false, false, false, false, false, false, false] rfl rfl (any_of HT_.out (by kernel_rfl)) (fun _ _ _ h => h) (Or.inr ⟨by rfl, rfl⟩) ?_ ?_
                rotate_left
                · simp only [Act.put, List.setIfInBounds_toArray, List.set_cons_zero, List.set_cons_succ, i64_w, i32_w]
                  rfl
                refine pure_ (i := 5) (N := some 81) (v := undef) (a' := ?_) #[true, true, true, true, true, true, false, false, false, false, false, false, false, false, false, false, false, false, false, false, false, false, false, false, false] rfl rfl (any_of HT_.out (by kernel_rfl)) (fun _ _ _ h => h) (Or.inr ⟨by rfl, rfl⟩) ?_ ?_
                rotate_left
                · simp only [Act.put, List.setIfInBounds_toArray, List.set_cons_zero, List.set_cons_succ, i64_w, i32_w]
                  rfl
                refine pure_ (i := 6) (N := some 82) (v := undef) (a' := ?_) #[true, true, true, true, true, true, true, false, false, false, false, false, false, false, false, false, false, false, false, false, false, false, false, false, false] rfl rfl (any_of HT_.out (by kernel_rfl)) (fun _ _ _ h => h) (Or.inr ⟨by rfl, rfl⟩) ?_ ?_
                rotate_left
                · simp only [Act.put, List.setIfInBounds_toArray, List.set_cons_zero, List.set_cons_succ, i64_w, i32_w]
                  rfl
                refine pure_ (i := 7) (N := some 83) (v := ?_) (a' := ?_) #[true, true, true, true, true, true, true, true, false, false, false, false, false, false, false, false, false, false, false, false, false, false, false, false, false] rfl rfl (any_of HT_.out (by kernel_rfl)) (fun _ _ _ h => h) (Or.inl ⟨by rfl, ?_⟩) ?_ ?_
                rotate_left
                · intro w'
                  go_simp
                  with_reducible rfl
                rotate_left
                · simp only [Act.put, List.setIfInBounds_toArray, List.set_cons_zero, List.set_cons_succ, i64_w, i32_w]
                  rfl
                refine pure_ (i := 8) (N := some 84) (v := ?_) (a' := ?_) #[true, true, true, true, true, true, true, true, true, false, false, false, false, false, false, false, false, false, false, false, false, false, false, false, false] rfl rfl (any_of HT_.out (by kernel_rfl)) (fun _ _ _ h => h) (Or.inl ⟨by rfl, ?_⟩) ?_ ?_
                rotate_left
                · intro w'
                  go_simp
                  with_reducible rfl
                rotate_left
                · simp only [Act.put, List.setIfInBounds_toArray, List.set_cons_zero, List.set_cons_succ, i64_w, i32_w]
                  rfl
                refine pure_ (i := 9) (N := some 85) (v := undef) (a' := ?_) #[true, true, true, true, true, true, true, true, true, true, false, false, false, false, false, false, false, false, false, false, false, false, false, false, false] rfl rfl (any_of HT_.out (by kernel_rfl)) (fun _ _ _ h => h) (Or.inr ⟨by rfl, rfl⟩) ?_ ?_
                rotate_left
                · simp only [Act.put, List.setIfInBounds_toArray, List.set_cons_zero, List.set_cons_succ, i64_w, i32_w]
                  rfl
                refine pure_ (i := 10) (N := some 86) (v := undef) (a' := ?_) #[true, true, true, true, true, true, true, true, true, true, true, false, false, false, false, false, false, false, false, false, false, false, false, false, false] rfl rfl (any_of HT_.out (by kernel_rfl)) (fun _ _ _ h => h) (Or.inr ⟨by rfl, rfl⟩) ?_ ?_
                rotate_left
                · simp only [Act.put, List.setIfInBounds_toArray, List.set_cons_zero, List.set_cons_succ, i64_w, i32_w]
                  rfl
                refine pure_ (i := 11) (N := some 87) (v := undef) (a' := ?_) #[true, true, true, true, true, true, true, true, true, true, true, true, false, false, false, false, false, false, false, false, false, false, false, false, false] rfl rfl (any_of HT_.out (by kernel_rfl)) (fun _ _ _ h => h) (Or.inr ⟨by rfl, rfl⟩) ?_ ?_
                rotate_left
                · simp only [Act.put, List.setIfInBounds_toArray, List.set_cons_zero, List.set_cons_succ, i64_w, i32_w]
                  rfl
                refine pure_ (i := 12) (N := some 88) (v := undef) (a' := ?_) #[true, true, true, true, true, true, true, true, true, true, true, true, true, false, false, false, false, false, false, false, false, false, false, false, false] rfl rfl (any_of HT_.out (by kernel_rfl)) (fun _ _ _ h => h) (Or.inr ⟨by rfl, rfl⟩) ?_ ?_
                rotate_left
                · simp only [Act.put, List.setIfInBounds_toArray, List.set_cons_zero, List.set_cons_succ, i64_w, i32_w]
                  rfl
                refine pure_ (i := 13) (N := some 89) (v := undef) (a' := ?_) #[true, true, true, true, true, true, true, true, true, true, true, true, true, true, false, false, false, false, false, false, false, false, false, false, false] rfl rfl (any_of HT_.out (by kernel_rfl)) (fun _ _ _ h => h) (Or.inr ⟨by rfl, rfl⟩) ?_ ?_
                rotate_left
                · simp only [Act.put, List.setIfInBounds_toArray, List.set_cons_zero, List.set_cons_succ, i64_w, i32_w]
                  rfl
                refine pure_ (i := 14) (N := some 90) (v := undef) (a' := ?_) #[true, true, true, true, true, true, true, true, true, true, true, true, true, true, true, false, false, false, false, false, false, false, false, false, false] rfl rfl (any_of HT_.out (by kernel_rfl)) (fun _ _ _ h => h) (Or.inr ⟨by rfl, rfl⟩) ?_ ?_
                rotate_left
                · simp only [Act.put, List.setIfInBounds_toArray, List.set_cons_zero, List.set_cons_succ, i64_w, i32_w]
                  rfl
                refine pure_ (i := 15) (N := some 91) (v := undef) (a' := ?_) #[true, true, true, true, true, true, true, true, true, true, true, true, true, true, true, true, false, false, false, false, false, false, false, false, false] rfl rfl (any_of HT_.out (by kernel_rfl)) (fun _ _ _ h => h) (Or.inr ⟨by rfl, rfl⟩) ?_ ?_
                rotate_left
                · simp only [Act.put, List.setIfInBounds_toArray, List.set_cons_zero, List.set_cons_succ, i64_w, i32_w]
                  rfl
                refine pure_ (i := 16) (N := some 92) (v := undef) (a' := ?_) #[true, true, true, true, true, true, true, true, true, true, true, true, true, true, true, true, true, false, false, false, false, false, false, false, false] rfl rfl (any_of HT_.out (by kernel_rfl)) (fun _ _ _ h => h) (Or.inr ⟨by rfl, rfl⟩) ?_ ?_
                rotate_left
                · simp only [Act.put, List.setIfInBounds_toArray, List.set_cons_zero, List.set_cons_succ, i64_w, i32_w]
                  rfl
                refine pure_ (i := 17) (N := some 93) (v := undef) (a' := ?_) #[true, true, true, true, true, true, true, true, true, true, true, true, true, true, true, true, true, true, false, false, false, false, false, false, false] rfl rfl (any_of HT_.out (by kernel_rfl)) (fun _ _ _ h => h) (Or.inr ⟨by rfl, rfl⟩) ?_ ?_
                rotate_left
                · simp only [Act.put, List.setIfInBounds_toArray, List.set_cons_zero, List.set_cons_succ, i64_w, i32_w]
                  rfl
                refine pure_ (i := 18) (N := some 94) (v := undef) (a' := ?_) #[true, true, true, true, true, true, true, true, true, true, true, true, true, true, true, true, true, true, true, false, false, false, false, false, false] rfl rfl (any_of HT_.out (by kernel_rfl)) (fun _ _ _ h => h) (Or.inr ⟨by rfl, rfl⟩) ?_ ?_
                rotate_left
                · simp only [Act.put, List.setIfInBounds_toArray, List.set_cons_zero, List.set_cons_succ, i64_w, i32_w]
                  rfl
                refine pure_ (i := 19) (N := some 95) (v := undef) (a' := ?_) #[true, true, true, true, true, true, true, true, true, true, true, true, true, true, true, true, true, true, true, true, false, false, false, false, false] rfl rfl (any_of HT_.out (by kernel_rfl)) (fun _ _ _ h => h) (Or.inr ⟨by rfl, rfl⟩) ?_ ?_
                rotate_left
                · simp only [Act.put, List.setIfInBounds_toArray, List.set_cons_zero, List.set_cons_succ, i64_w, i32_w]
                  rfl
                refine pure_ (i := 20) (N := some 96) (v := undef) (a' := ?_) #[true, true, true, true, true, true, true, true, true, true, true, true, true, true, true, true, true, true, true, true, true, false, false, false, false] rfl rfl (any_of HT_.out (by kernel_rfl)) (fun _ _ _ h => h) (Or.inr ⟨by rfl, rfl⟩) ?_ ?_
                rotate_left
                · simp only [Act.put, List.setIfInBounds_toArray, List.set_cons_zero, List.set_cons_succ, i64_w, i32_w]
                  rfl
                refine pure_ (i := 21) (N := some 97) (v := undef) (a' := ?_) #[true, true, true, true, true, true, true, true, true, true, true, true, true, true, true, true, true, true, true, true, true, true, false, false, false] rfl rfl (any_of HT_.out (by kernel_rfl)) (fun _ _ _ h => h) (Or.inr ⟨by rfl, rfl⟩) ?_ ?_
                rotate_left
                · simp only [Act.put, List.setIfInBounds_toArray, List.set_cons_zero, List.set_cons_succ, i64_w, i32_w]
                  rfl
                refine pure_ (i := 22) (N := some 98) (v := undef) (a' := ?_) #[true, true, true, true, true, true, true, true, true, true, true, true, true, true, true, true, true, true, true, true, true, true, true, false, false] rfl rfl (any_of HT_.out (by kernel_rfl)) (fun _ _ _ h => h) (Or.inr ⟨by rfl, rfl⟩) ?_ ?_
                rotate_left
                · simp only [Act.put, List.setIfInBounds_toArray, List.set_cons_zero, List.set_cons_succ, i64_w, i32_w]
                  rfl
                refine pure_ (i := 23) (N := some 99) (v := undef) (a' := ?_) #[true, true, true, true, true, true, true, true, true, true, true, true, true, true, true, true, true, true, true, true, true, true, true, true, false] rfl rfl (any_of HT_.out (by kernel_rfl)) (fun _ _ _ h => h) (Or.inr ⟨by rfl, rfl⟩) ?_ ?_
                rotate_left
                · simp only [Act.put, List.setIfInBounds_toArray, List.set_cons_zero, List.set_cons_succ, i64_w, i32_w]
                  rfl
                refine pure_ (i := 24) (N := some 100) (v := ?_) (a' := ?_) #[true, true, true, true, true, true, true, true, true, true, true, true, true, true, true, true, true, true, true, true, true, true, true, true, true] rfl rfl (any_of HT_.out (by kernel_rfl)) (fun _ _ _ h => h) (Or.inl ⟨by rfl, ?_⟩) ?_ ?_
                rotate_left
                · intro w'
                  go_simp
                  with_reducible rfl
                rotate_left
                · simp only [Act.put, List.setIfInBounds_toArray, List.set_cons_zero, List.set_cons_succ, i64_w, i32_w]
                  rfl
                refine done_ (done_of HT_.out (by kernel_rfl)) ?_
                try go_wp2
                go_meet
                case rel => exact ⟨_, (false), (by first | rfl | (simp; done) | (simp [*]; done)), H', ⟨by have := HJ4.out; have := HJ14.out; first | omega | exact Nat.le_refl _⟩, ⟨by (with_reducible repeat (first | apply Kd.R_alloc | apply Kd.R_drewN | apply Kd.R_drew)); exact HO_9.out⟩, ⟨by (with_reducible repeat (first | apply Kd.R_alloc | apply Kd.R_drewN | apply Kd.R_drew)); exact HO_10.out⟩, ⟨by (with_reducible repeat (first | apply Kd.R_alloc | apply Kd.R_drewN | apply Kd.R_drew)); exact HO_11.out⟩, ⟨by (with_reducible repeat (first | apply Kd.R_alloc | apply Kd.R_drewN | apply Kd.R_drew)); exact HO_16.out⟩, ⟨by (with_reducible repeat (first | refine blk_drewN ?_ _ | refine blk_drew ?_ | refine blk_alloc ?_ _)); exact BK262.out⟩, ⟨by repeat (first | (with_reducible first | exact HB.out | apply below_alloc | apply pw_below_drewN | apply below_drew1 | refine below_set ?_ GE262.out) | exact HB.out)⟩⟩
            case rest =>
              clear HC65
              try clear c1
              try clear p2
              try clear q2
              try clear hx2
              try clear c6
              try clear c18
              try clear c19
              try clear q29
              try clear hx29
              try clear c66
              try clear c66b0
              try clear c66b1
              try clear c67
              try clear c67b0
              try clear c67b1
              try clear c68
              try clear c69
              try clear hx291_0
              try clear hx291_1
              try clear hx291_2
              try clear hx291_3
              try clear hx291_4
              try clear hx291_5
              try clear hx292_0
              try clear hx292_1
              try clear hx292_2
              try clear hx292_3
              try clear hx292_4
              try clear hx292_5
              try clear hx294_0
              try clear hx294_1
              try clear hx294_2
              try clear hx294_3
              try clear hx294_4
              try clear hx294_5
              try clear hx295_0
              try clear hx295_1
              try clear hx295_2
              try clear hx295_3
              try clear hx295_4
              try clear hx295_5
              try clear q295
              obtain ⟨kq, x100_64, rfl, HA, HJ64, HO_9, HO_10, HO_11, HO_16, BK262, HB⟩ := hcut
              cases kq with
              | zero => exact absurd HA.out (by simp [watchmanlaw07_RankDoes.j2])
              | succ kj64 =>
                have H := HA.out
                clear HA
                simp only [watchmanlaw07_RankDoes.j2] at H
                by_cases c77 : x100_64 = true
                · subst c77
                  have H1 : (none) = some r := by rw [if_pos rfl] at H; exact H
                  clear H
                  have H := H1
                  clear H1
                  exact absurd H (by simp)
                · replace c77 := Bool.eq_false_iff.mpr c77
                  subst c77
                  have H1 : ((watchmanlaw07_smudge.f kj64 t266).bind fun t297 => ((watchmanlaw07_smudge.f kj64 t269).bind fun t298 => ((watchmanlaw07_smudge.f kj64 t276).bind fun t299 => ((watchmanlaw07_ranked.f kj64).bind fun t300 => (if t300 = true then (if x17_14 = true then ((watchmanref07_Same.f kj64 l0 t263).bind fun t301 => (some t301)) else (none)) else (none)))))) = some r := by rw [if_neg (show ¬ (false = true) by decide)] at H; exact H
                  clear H
                  have H := H1
                  clear H1
                  replace H := Option.bind_eq_some_iff.mp H
                  obtain ⟨t297, A780, H⟩ := H
                  replace H : ((watchmanlaw07_smudge.f kj64 t269).bind fun t298 => ((watchmanlaw07_smudge.f kj64 t276).bind fun t299 => ((watchmanlaw07_ranked.f kj64).bind fun t300 => (if t300 = true then (if x17_14 = true then ((watchmanref07_Same.f kj64 l0 t263).bind fun t301 => (some t301)) else (none)) else (none))))) = some r := H
                  have A78 := Aside0.mk A780
                  clear A780
                  replace H := Option.bind_eq_some_iff.mp H
                  obtain ⟨t298, A790, H⟩ := H
                  replace H : ((watchmanlaw07_smudge.f kj64 t276).bind fun t299 => ((watchmanlaw07_ranked.f kj64).bind fun t300 => (if t300 = true then (if x17_14 = true then ((watchmanref07_Same.f kj64 l0 t263).bind fun t301 => (some t301)) else (none)) else (none)))) = some r := H
                  have A79 := Aside0.mk A790
                  clear A790
                  replace H := Option.bind_eq_some_iff.mp H
                  obtain ⟨t299, A800, H⟩ := H
                  replace H : ((watchmanlaw07_ranked.f kj64).bind fun t300 => (if t300 = true then (if x17_14 = true then ((watchmanref07_Same.f kj64 l0 t263).bind fun t301 => (some t301)) else (none)) else (none))) = some r := H
                  have A80 := Aside0.mk A800
                  clear A800
                  replace H := Option.bind_eq_some_iff.mp H
                  obtain ⟨t300, A810, H⟩ := H
                  replace H : (if t300 = true then (if x17_14 = true then ((watchmanref07_Same.f kj64 l0 t263).bind fun t301 => (some t301)) else (none)) else (none)) = some r := H
                  have A81 := Aside0.mk A810
                  clear A810
                  by_cases c82 : t300 = true
                  · subst c82
                    have H1 : (if x17_14 = true then ((watchmanref07_Same.f kj64 l0 t263).bind fun t301 => (some t301)) else (none)) = some r := by rw [if_pos rfl] at H; exact H
                    clear H
                    have H := H1
                    clear H1
                    by_cases c83 : x17_14 = true
                    · subst c83
                      have H1 : ((watchmanref07_Same.f kj64 l0 t263).bind fun t301 => (some t301)) = some r := by rw [if_pos rfl] at H; exact H
                      clear H
                      have H := H1
                      clear H1
                      replace H := Option.bind_eq_some_iff.mp H
                      obtain ⟨t301, A840, H⟩ := H
                      replace H : (some t301) = some r := H
                      have A84 := Aside0.mk A840
                      clear A840
                      obtain rfl := Option.some.inj H
                      obtain ⟨Ao85, co85, eo85⟩ := Kd.R_slice HO_10.out
                      subst eo85
                      go_wp2_with (first | ((with_reducible refine gate_callee (f := 20) rfl ?_); refine goesL_ (some 102) rfl rfl Try.func20 (by kernel_rfl) rfl #[.slice Ao85 t266.length co85] rfl (by (try simp only [List.map_toArray, List.map_cons, List.map_nil]); first | done | rfl | (simp only [List.length_drop, List.length_take]; rfl)) ?_; (with_reducible refine (watchmanlaw07_smudge.calls kj64 (fun k_ => some k_ = (.slice Ao85 t266.length co85 : Value).ownBlock) (.slice Ao85 t266.length co85) t266 t297 w _ ?side1 ?side2 A78.out).mono ?_); (case side1 => repeat (first | (with_reducible first | exact HB.out | apply below_alloc | apply pw_below_drewN | apply below_drew1 | refine below_set ?_ GE262.out) | exact HB.out)); (case side2 => exact Kd.R_tight rfl HO_10.out); rintro e w86 ⟨rfl, hy0, hb, hkp⟩; refine ⟨_, rfl, ?_⟩; have n0_ := Aside0.mk (Kd.R_mono (ok' := fun k_ => some k_ ≠ (.slice Ao85 t266.length co85 : Value).ownBlock ∧ some k_ ≠ (v270 : Value).ownBlock ∧ some k_ ≠ (v277 : Value).ownBlock) (Kd.R_keptB (HO_9.out) hkp (fun k_ hk_ hs_ => (hk_.1) hs_)) (fun k_ hk_ => ⟨hk_.1.1, hk_.1.2.1, hk_.1.2.2⟩)); have n1_ := Aside0.mk (Kd.R_reok rfl hy0 (fun k_ e_ => HO_10.out.1 k_ e_)); have n2_ := Aside0.mk (Kd.R_mono (ok' := fun k_ => some k_ ≠ (.slice Ao22 t263.length co22 : Value).ownBlock ∧ some k_ ≠ (.slice Ao85 t266.length co85 : Value).ownBlock ∧ some k_ ≠ (v277 : Value).ownBlock) (Kd.R_keptB (HO_11.out) hkp (fun k_ hk_ hs_ => (hk_.2.1) hs_)) (fun k_ hk_ => ⟨hk_.1.1, hk_.1.2.1, hk_.1.2.2⟩)); have n3_ := Aside0.mk (Kd.R_mono (ok' := fun k_ => some k_ ≠ (.slice Ao22 t263.length co22 : Value).ownBlock ∧ some k_ ≠ (.slice Ao85 t266.length co85 : Value).ownBlock ∧ some k_ ≠ (v270 : Value).ownBlock) (Kd.R_keptB (HO_16.out) hkp (fun k_ hk_ hs_ => (hk_.2.1) hs_)) (fun k_ hk_ => ⟨hk_.1.1, hk_.1.2.1, hk_.1.2.2⟩)); have n4_ := Aside0.mk (blk_kept (by (with_reducible repeat (first | refine blk_drewN ?_ _ | refine blk_drew ?_ | refine blk_alloc ?_ _)); exact BK262.out) hkp (fun hs_ => (fun e_ => (Kd.R_ne HO_10.out BK262.out (by decide)) e_) hs_)); have n5_ := Aside0.mk (hb); clear HO_9; clear HO_10; clear HO_11; clear HO_16; clear BK262; clear HB; have HO_9 := n0_; have HO_10 := n1_; have HO_11 := n2_; have HO_16 := n3_; have BK262 := n4_; have HB := n5_; clear n0_ n1_ n2_ n3_ n4_ n5_; (try clear hb); (try clear hkp); (try clear hy0); obtain ⟨Ao87, co87, eo87⟩ := Kd.R_slice HO_11.out; subst eo87) | ((with_reducible refine gate_callee (f := 20) rfl ?_); refine goesL_ (some 104) rfl rfl Try.func20 (by kernel_rfl) rfl #[.slice Ao87 t269.length co87] rfl (by (try simp only [List.map_toArray, List.map_cons, List.map_nil]); first | done | rfl | (simp only [List.length_drop, List.length_take]; rfl)) ?_; (with_reducible refine (watchmanlaw07_smudge.calls kj64 (fun k_ => some k_ = (.slice Ao87 t269.length co87 : Value).ownBlock) (.slice Ao87 t269.length co87) t269 t298 w _ ?side1 ?side2 A79.out).mono ?_); (case side1 => repeat (first | (with_reducible first | exact HB.out | apply below_alloc | apply pw_below_drewN | apply below_drew1 | refine below_set ?_ GE262.out) | exact HB.out)); (case side2 => exact Kd.R_tight rfl HO_11.out); rintro e w88 ⟨rfl, hy0, hb, hkp⟩; refine ⟨_, rfl, ?_⟩; have n0_ := Aside0.mk (Kd.R_mono (ok' := fun k_ => some k_ ≠ (.slice Ao85 t266.length co85 : Value).ownBlock ∧ some k_ ≠ (.slice Ao87 t269.length co87 : Value).ownBlock ∧ some k_ ≠ (v277 : Value).ownBlock) (Kd.R_keptB (HO_9.out) hkp (fun k_ hk_ hs_ => (hk_.2.1) hs_)) (fun k_ hk_ => ⟨hk_.1.1, hk_.1.2.1, hk_.1.2.2⟩)); have n1_ := Aside0.mk (Kd.R_mono (ok' := fun k_ => some k_ ≠ (.slice Ao22 t263.length co22 : Value).ownBlock ∧ some k_ ≠ (.slice Ao87 t269.length co87 : Value).ownBlock ∧ some k_ ≠ (v277 : Value).ownBlock) (Kd.R_keptB (HO_10.out) hkp (fun k_ hk_ hs_ => (hk_.2.1) hs_)) (fun k_ hk_ => ⟨hk_.1.1, hk_.1.2.1, hk_.1.2.2⟩)); have n2_ := Aside0.mk (Kd.R_reok rfl hy0 (fun k_ e_ => HO_11.out.1 k_ e_)); have n3_ := Aside0.mk (Kd.R_mono (ok' := fun k_ => some k_ ≠ (.slice Ao22 t263.length co22 : Value).ownBlock ∧ some k_ ≠ (.slice Ao85 t266.length co85 : Value).ownBlock ∧ some k_ ≠ (.slice Ao87 t269.length co87 : Value).ownBlock) (Kd.R_keptB (HO_16.out) hkp (fun k_ hk_ hs_ => (hk_.2.2) hs_)) (fun k_ hk_ => ⟨hk_.1.1, hk_.1.2.1, hk_.1.2.2⟩)); have n4_ := Aside0.mk (blk_kept (by (with_reducible repeat (first | refine blk_drewN ?_ _ | refine blk_drew ?_ | refine blk_alloc ?_ _)); exact BK262.out) hkp (fun hs_ => (fun e_ => (Kd.R_ne HO_11.out BK262.out (by decide)) e_) hs_)); have n5_ := Aside0.mk (hb); clear HO_9; clear HO_10; clear HO_11; clear HO_16; clear BK262; clear HB; have HO_9 := n0_; have HO_10 := n1_; have HO_11 := n2_; have HO_16 := n3_; have BK262 := n4_; have HB := n5_; clear n0_ n1_ n2_ n3_ n4_ n5_; (try clear hb); (try clear hkp); (try clear hy0); obtain ⟨Ao89, co89, eo89⟩ := Kd.R_slice HO_16.out; subst eo89) | ((with_reducible refine gate_callee (f := 20) rfl ?_); refine goesL_ (some 106) rfl rfl Try.func20 (by kernel_rfl) rfl #[.slice Ao89 t276.length co89] rfl (by (try simp only [List.map_toArray, List.map_cons, List.map_nil]); first | done | rfl | (simp only [List.length_drop, List.length_take]; rfl)) ?_; (with_reducible refine (watchmanlaw07_smudge.calls kj64 (fun k_ => some k_ = (.slice Ao89 t276.length co89 : Value).ownBlock) (.slice Ao89 t276.length co89) t276 t299 w _ ?side1 ?side2 A80.out).mono ?_); (case side1 => repeat (first | (with_reducible first | exact HB.out | apply below_alloc | apply pw_below_drewN | apply below_drew1 | refine below_set ?_ GE262.out) | exact HB.out)); (case side2 => exact Kd.R_tight rfl HO_16.out); rintro e w90 ⟨rfl, hy0, hb, hkp⟩; refine ⟨_, rfl, ?_⟩; have n0_ := Aside0.mk (Kd.R_mono (ok' := fun k_ => some k_ ≠ (.slice Ao85 t266.length co85 : Value).ownBlock ∧ some k_ ≠ (.slice Ao87 t269.length co87 : Value).ownBlock ∧ some k_ ≠ (.slice Ao89 t276.length co89 : Value).ownBlock) (Kd.R_keptB (HO_9.out) hkp (fun k_ hk_ hs_ => (hk_.2.2) hs_)) (fun k_ hk_ => ⟨hk_.1.1, hk_.1.2.1, hk_.1.2.2⟩)); have n1_ := Aside0.mk (Kd.R_mono (ok' := fun k_ => some k_ ≠ (.slice Ao22 t263.length co22 : Value).ownBlock ∧ some k_ ≠ (.slice Ao87 t269.length co87 : Value).ownBlock ∧ some k_ ≠ (.slice Ao89 t276.length co89 : Value).ownBlock) (Kd.R_keptB (HO_10.out) hkp (fun k_ hk_ hs_ => (hk_.2.2) hs_)) (fun k_ hk_ => ⟨hk_.1.1, hk_.1.2.1, hk_.1.2.2⟩)); have n2_ := Aside0.mk (Kd.R_mono (ok' := fun k_ => some k_ ≠ (.slice Ao22 t263.length co22 : Value).ownBlock ∧ some k_ ≠ (.slice Ao85 t266.length co85 : Value).ownBlock ∧ some k_ ≠ (.slice Ao89 t276.length co89 : Value).ownBlock) (Kd.R_keptB (HO_11.out) hkp (fun k_ hk_ hs_ => (hk_.2.2) hs_)) (fun k_ hk_ => ⟨hk_.1.1, hk_.1.2.1, hk_.1.2.2⟩)); have n3_ := Aside0.mk (Kd.R_reok rfl hy0 (fun k_ e_ => HO_16.out.1 k_ e_)); have n4_ := Aside0.mk (blk_kept (by (with_reducible repeat (first | refine blk_drewN ?_ _ | refine blk_drew ?_ | refine blk_alloc ?_ _)); exact BK262.out) hkp (fun hs_ => (fun e_ => (Kd.R_ne HO_16.out BK262.out (by decide)) e_) hs_)); have n5_ := Aside0.mk (hb); clear HO_9; clear HO_10; clear HO_11; clear HO_16; clear BK262; clear HB; have HO_9 := n0_; have HO_10 := n1_; have HO_11 := n2_; have HO_16 := n3_; have BK262 := n4_; have HB := n5_; clear n0_ n1_ n2_ n3_ n4_ n5_; (try clear hb); (try clear hkp); (try clear hy0)) | ((with_reducible refine gate_callee (f := 21) rfl ?_); refine goesL_ (some 107) rfl rfl Try.func21 (by kernel_rfl) rfl #[] rfl (by (try simp only [List.map_toArray, List.map_cons, List.map_nil]); first | done | rfl | (simp only [List.length_drop, List.length_take]; rfl)) ?_; (with_reducible refine (watchmanlaw07_ranked.calls kj64  true _ A81.out).mono ?_); rintro e w91 ⟨rfl, hb⟩; refine ⟨_, rfl, ?_⟩; have n0_ := Aside0.mk (Kd.R_below (by (with_reducible repeat (first | apply Kd.R_alloc | apply Kd.R_drewN | apply Kd.R_drew)); exact HO_9.out) hb); have n1_ := Aside0.mk (Kd.R_below (by (with_reducible repeat (first | apply Kd.R_alloc | apply Kd.R_drewN | apply Kd.R_drew)); exact HO_10.out) hb); have n2_ := Aside0.mk (Kd.R_below (by (with_reducible repeat (first | apply Kd.R_alloc | apply Kd.R_drewN | apply Kd.R_drew)); exact HO_11.out) hb); have n3_ := Aside0.mk (Kd.R_below (by (with_reducible repeat (first | apply Kd.R_alloc | apply Kd.R_drewN | apply Kd.R_drew)); exact HO_16.out) hb); have n4_ := Aside0.mk (blk_below (g := gb262) (o := .cells #[.int .i64 a3_0, .int .i64 a3_1] 24 (0, 0)) (by (with_reducible repeat (first | refine blk_drewN ?_ _ | refine blk_drew ?_ | refine blk_alloc ?_ _)); exact BK262.out) hb); have n5_ := Aside0.mk (below_step (by repeat (first | (with_reducible first | exact HB.out | apply below_alloc | apply pw_below_drewN | apply below_drew1 | refine below_set ?_ GE262.out) | exact HB.out)) hb); clear HO_9; clear HO_10; clear HO_11; clear HO_16; clear BK262; clear HB; have HO_9 := n0_; have HO_10 := n1_; have HO_11 := n2_; have HO_16 := n3_; have BK262 := n4_; have HB := n5_; clear n0_ n1_ n2_ n3_ n4_ n5_; (try clear hb); (try clear hb2); (try clear hk); (try clear hi)) | (go_at_call 14; (with_reducible refine (watchmanref07_Same.calls kj64 _ _ l0 _ _ t263 t301 _ ?side1 ?side2 ?side3 ?side4 A84.out).mono ?_); (case side1 => repeat (first | exact (Kd.C_below HR0.out HB.out) | (with_reducible refine Kd.C_alloc ?_ _) | (with_reducible refine Kd.C_drewN ?_ _) | (with_reducible refine Kd.C_drew ?_))); (case side2 => exact HC0.out); (case side3 => repeat (first | exact (Kd.R_reads' HO_9.out).2.2 | (with_reducible refine Kd.C_alloc ?_ _) | (with_reducible refine Kd.C_drewN ?_ _) | (with_reducible refine Kd.C_drew ?_))); (case side4 => exact (Kd.R_reads' HO_9.out).2.1); rintro e w' ⟨rfl, ⟨nd, rfl⟩⟩))
                      go_ret
                      exact ⟨by first | rfl | (simp [errW_none, errW_some] <;> rfl) | (simp [*, errW_none, errW_some] <;> rfl), by repeat (first | (with_reducible first | exact HB.out | apply below_alloc | apply pw_below_drewN | apply below_drew1 | refine below_set ?_ GE262.out) | exact HB.out)⟩
                    · replace c83 := Bool.eq_false_iff.mpr c83
                      subst c83
                      have H1 : (none) = some r := by rw [if_neg (show ¬ (false = true) by decide)] at H; exact H
                      clear H
                      have H := H1
                      clear H1
                      exact absurd H (by simp)
                  · replace c82 := Bool.eq_false_iff.mpr c82
                    subst c82
                    have H1 : (none) = some r := by rw [if_neg (show ¬ (false = true) by decide)] at H; exact H
                    clear H
                    have H := H1
                    clear H1
                    exact absurd H (by simp)
end Go.Proofs.Ytjjagjehaoidbaa.P

set_option linter.unusedVariables false
set_option linter.unusedSimpArgs false
namespace Go.Proofs.Ytjjagjehaoidbaa.P
open Go.RowKit Go.Proofs.YtjjagjehaoidbaaW.PrintWords Go.Proofs.YtjjagjehaoidbaaW.PrintLast Go.Proofs.YtjjagjehaoidbaaW.PrintMore
theorem ranked_ev : Ev (fun k => watchmanlaw07_ranked.f k) true := Ev.of (fun k => watchmanlaw07_ranked.mono k) (k := 30) (by kernel_rfl)
theorem smudge_l0 : ∀ (d i : Nat) (l : List S34), l.length - i = d → l.length ≤ 1000000 → ∃ r, Ev (fun k => watchmanlaw07_smudge.l0 k l i) r
  | 0, i, l, hd, hl => ⟨l, by
    refine Ev.succ ?_
    simp only [watchmanlaw07_smudge.l0, if_neg (show ¬ (i : Int) < (l.length : Int) by omega)]
    exact Ev.now _⟩
  | d + 1, i, l, hd, hl => by
    obtain ⟨r, hr⟩ := smudge_l0 d (i + 1) (l.set (i : Int).toNat (⟨(⟨(rd_T34 l i).f0.f0, (rd_T34 l i).f0.f1⟩ : S24), (rd_T34 l i).f1, 77, (rd_T34 l i).f3, (rd_T34 l i).f4⟩ : S34)) (by simp; omega) (by simpa using hl)
    refine ⟨r, Ev.succ ?_⟩
    simp only [watchmanlaw07_smudge.l0, if_pos (show (i : Int) < (l.length : Int) by omega), if_pos (show (0 : Int) ≤ (i : Int) by omega), w64 (show -9223372036854775808 ≤ (i : Int) + 1 ∧ (i : Int) + 1 ≤ 9223372036854775807 by omega)]
    exact hr
theorem smudge_ev (L : List Alarm) (hl : L.length ≤ 1000000) : ∃ r, Ev (fun k => watchmanlaw07_smudge.f k (L.map ofA)) r := smudge_l0 _ 0 _ rfl (by simpa using hl)
theorem does_j2 (L : List Alarm) (A B C : List Alarm) (hL : L.length ≤ 1000000) (hA : A.length ≤ 1000000) (hB : B.length ≤ 1000000) (hC : C.length ≤ 1000000) :
    Ev (fun k => watchmanlaw07_RankDoes.j2 k (L.map ofA) (L.map ofA) (A.map ofA) (B.map ofA) (C.map ofA) true false) true := by
  obtain ⟨r1, h1⟩ := smudge_ev A hA
  obtain ⟨r2, h2⟩ := smudge_ev B hB
  obtain ⟨r3, h3⟩ := smudge_ev C hC
  refine Ev.succ ?_
  simp only [watchmanlaw07_RankDoes.j2, Bool.false_eq_true, if_false, if_true]
  refine Ev.bind h1 (Ev.bind h2 (Ev.bind h3 (Ev.bind ranked_ev ?_)))
  simp only [if_true]
  exact Ev.bind (same_refl L hL) (Ev.now _)
theorem does_j1 (L M : List Alarm) (A B C : List Alarm) (hL : L.length ≤ 1000000) (hA : A.length ≤ 1000000) (hB : B.length ≤ 1000000) (hC : C.length ≤ 1000000) :
    Ev (fun k => watchmanlaw07_RankDoes.j1 k (L.map ofA) (M.map ofA) (L.map ofA) (A.map ofA) (B.map ofA) (C.map ofA) true) true := by
  have h2 := does_j2 L A B C hL hA hB hC
  refine Ev.succ ?_
  by_cases h0 : ((L.map ofA).length : Int) > 0
  · by_cases h1 : ((M.map ofA).length : Int) > 0
    · simp only [watchmanlaw07_RankDoes.j1, if_pos h0, if_pos h1, if_pos (show (0 : Int) < ((L.map ofA).length : Int) from h0), if_pos (show (0 : Int) < ((M.map ofA).length : Int) from h1), rdL, rank_Compare.f, Option.bind_some]
      refine Ev.bind (cmp_ev (L.getD (0 : Int).toNat default) (M.getD (0 : Int).toNat default)) ?_
      have e : (cmpA (L.getD (0 : Int).toNat default) (M.getD (0 : Int).toNat default) != cmpA (L.getD (0 : Int).toNat default) (M.getD (0 : Int).toNat default)) = false := by simp
      have e2 : ∀ x : Alarm, toA ⟨⟨(ofA x).f0.f0, (ofA x).f0.f1⟩, (ofA x).f1, (ofA x).f2, (ofA x).f3, (ofA x).f4⟩ = x := fun x => rfl
      simp only [e2, e]
      exact h2
    · simp only [watchmanlaw07_RankDoes.j1, if_pos h0, if_neg h1]
      exact h2
  · simp only [watchmanlaw07_RankDoes.j1, if_neg h0]
    exact h2
theorem does_j0 (L M : List Alarm) (n : Int) (s : Spot) (hL : L.length ≤ 60) (hM : M.length ≤ 60) : Ev (fun k => watchmanlaw07_RankDoes.j0 k (L.map ofA) (M.map ofA) n false s.bed s.channel) true := by
  have bL : L.length ≤ 1000000 := by omega
  have bM : L.length + M.length ≤ 1000000 := by omega
  have hr : (rankA L).length = L.length := rankA_length L
  refine Ev.succ ?_
  simp only [watchmanlaw07_RankDoes.j0, Bool.false_eq_true, if_false, own_f L bL, Option.bind_some, sort_f L bL, top_f L n bL, place_f L s bL, merge_f L M bM]
  refine Ev.bind (place_ev L s bL) ?_
  refine Ev.bind (sort_ev L bL) ?_
  refine Ev.bind (same_refl (rankA L) (by omega)) ?_
  simp only [if_true]
  refine Ev.bind (top_ev L n bL) ?_
  refine Ev.bind (same_refl ((rankA L).take n.toNat) (by simp; omega)) ?_
  simp only [if_true, beq_self_eq_true]
  refine Ev.bind (merge_ev L M bM) ?_
  refine Ev.bind (same_refl (rankA (L ++ M)) (by rw [rankA_length]; simpa using bM)) ?_
  exact does_j1 L M (rankA L) ((rankA L).take n.toNat) (rankA (L ++ M)) bL (by omega) (by simp; omega) (by rw [rankA_length]; simpa using bM)
theorem does_true (l0 l1 : List S34) (a2 a3 a4 : Int) : ∃ k, watchmanlaw07_RankDoes.f k l0 l1 a2 a3 a4 = some true := by
  obtain ⟨L, rfl⟩ : ∃ L : List Alarm, l0 = L.map ofA := ⟨l0.map toA, (map_ofA l0).symm⟩
  obtain ⟨M, rfl⟩ : ∃ L : List Alarm, l1 = L.map ofA := ⟨l1.map toA, (map_ofA l1).symm⟩
  have out : ∀ (x y : List S34), Ev (fun k => watchmanlaw07_RankDoes.j0 k x y a2 true a3 a4) true := fun x y => by
    refine Ev.succ ?_
    simp only [watchmanlaw07_RankDoes.j0, if_true]
    exact Ev.now _
  refine Ev.rounds (g := fun k => watchmanlaw07_RankDoes.f k (L.map ofA) (M.map ofA) a2 a3 a4) ?_
  unfold watchmanlaw07_RankDoes.f
  by_cases h : ((L.map ofA).length : Int) > 60
  · simp only [if_pos h]; exact out _ _
  · simp only [if_neg h]
    by_cases h' : ((M.map ofA).length : Int) > 60
    · simp only [decide_eq_true h']; exact out _ _
    · simp only [decide_eq_false h']
      exact does_j0 L M a2 ⟨a3, a4⟩ (by simp at h; omega) (by simp at h'; omega)
end Go.Proofs.Ytjjagjehaoidbaa.P

set_option linter.unusedVariables false
namespace Go.Rd
open Go.RowKit Go.Proofs.YtjjagjehaoidbaaW.PrintWords Go.ChangeShapes Go.WideShapes
variable {H : Type} {enc : TypeId × Value → H} {P : Program} {W : World}
def Read (enc : TypeId × Value → H) (P : Program) (W : World) (t : TypeId) (cs : List Value) : Prop := ∃ fuel x, DataW.trod enc P W 0 (fun _ => true) true fuel t cs = some x
theorem Read.of {t : TypeId} {v : Value} {d : DataW H} {ps : List MemPlace} (h : DataW.Trod enc P W 0 (fun _ => true) true t v d ps) : Read enc P W t v.cells.toList := by
  obtain ⟨fuel, h⟩ := h
  exact ⟨fuel, _, h⟩
def RdK {α : Type} (enc : TypeId × Value → H) (P : Program) (W : World) (d : Kd α) (t : TypeId) (good : α → Prop) : Prop := ∀ cs, Read enc P W t cs → cs.length = P.cellsOf t → ∃ x, good x ∧ d.K W x cs
theorem RdK.int {t : TypeId} {k : IntKind} (ht : P.underlying t = some (.int k)) : RdK enc P W (Kd.int k) t (fun n => (Lit.int k n).wf = true) := by
  rintro cs ⟨fuel, x, h⟩ _
  obtain ⟨n, rfl, _, h2⟩ := DataW.trod_int ht h
  exact ⟨n, h2, rfl⟩
theorem RdK.bool {t : TypeId} (ht : P.underlying t = some .bool) : RdK enc P W Kd.bool t (fun _ => True) := by
  rintro cs ⟨fuel, x, h⟩ _
  obtain ⟨n, rfl, _⟩ := DataW.trod_bool ht h
  exact ⟨n, trivial, rfl⟩
theorem RdK.str {t : TypeId} (ht : P.underlying t = some .string) : RdK enc P W Kd.string t (fun s => s.size ≤ maxLen) := by
  rintro cs ⟨fuel, x, h⟩ _
  obtain ⟨n, rfl, _, h2⟩ := DataW.trod_string ht h
  exact ⟨n, h2, rfl⟩
theorem RdK.iso {α β : Type} {d : Kd α} {f : β → α} {t : TypeId} {good : α → Prop} (h : RdK enc P W d t good) (inv : α → β) (hf : ∀ a, f (inv a) = a) : RdK enc P W (Kd.iso d f) t (fun b => good (f b)) := by
  intro cs hr hl
  obtain ⟨x, h1, h2⟩ := h cs hr hl
  exact ⟨inv x, by show good (f (inv x)); rw [hf]; exact h1, by show d.K W (f (inv x)) cs; rw [hf]; exact h2⟩
theorem RdK.imp {α : Type} {d : Kd α} {t : TypeId} {good good' : α → Prop} (h : RdK enc P W d t good) (hi : ∀ x, good x → good' x) : RdK enc P W d t good' := fun cs hr hl => by
  obtain ⟨x, h1, h2⟩ := h cs hr hl
  exact ⟨x, hi x h1, h2⟩
def RdF {α : Type} (enc : TypeId × Value → H) (P : Program) (W : World) (d : Kd α) (fl : List Field) (o m : Nat) (good : α → Prop) : Prop :=
  ∀ cs : List Value, cs.length = m → (∀ f ∈ fl, Read enc P W f.type ((cs.drop f.offset).take (P.cellsOf f.type))) → ∃ x, good x ∧ d.K W x (cs.drop o)
theorem RdF.last {α : Type} {d : Kd α} {f : Field} {o m n : Nat} {good : α → Prop} (h : RdK enc P W d f.type good) (ho : f.offset = o) (hn : P.cellsOf f.type = n) (hm : m = o + n) : RdF enc P W d [f] o m good := by
  intro cs hl hr
  have h1 := hr f (by simp)
  have e : (cs.drop f.offset).take (P.cellsOf f.type) = cs.drop o := by
    rw [ho, hn]; exact List.take_of_length_le (by rw [List.length_drop]; omega)
  rw [e] at h1
  exact h _ h1 (by rw [List.length_drop, hn]; omega)
theorem RdF.cons {α β : Type} {a : Kd α} {b : Kd β} {f : Field} {fl : List Field} {o m n : Nat} {g1 : α → Prop} {g2 : β → Prop} (h : RdK enc P W a f.type g1) (ho : f.offset = o) (hn : P.cellsOf f.type = n) (hm : o + n ≤ m) (t : RdF enc P W b fl (o + n) m g2) :
    RdF enc P W (Kd.pair a b) (f :: fl) o m (fun x => g1 x.1 ∧ g2 x.2) := by
  intro cs hl hr
  have h1 := hr f (by simp)
  rw [ho, hn] at h1
  obtain ⟨x, x1, x2⟩ := h _ h1 (by rw [List.length_take, List.length_drop, hn]; omega)
  obtain ⟨y, y1, y2⟩ := t cs hl (fun g hg => hr g (by simp [hg]))
  refine ⟨(x, y), ⟨x1, y1⟩, (cs.drop o).take n, cs.drop (o + n), ?_, x2, y2⟩
  rw [← List.drop_drop, List.take_append_drop]
theorem RdK.struct {α : Type} {d : Kd α} {t : TypeId} {fs : Array Field} {m : Nat} {good : α → Prop} (ht : P.underlying t = some (.struct fs)) (hm : P.cellsOf t = m) (h : RdF enc P W d fs.toList 0 m good) : RdK enc P W d t good := by
  rintro cs ⟨fuel, x, hr⟩ hl
  obtain ⟨xs, n, _, rfl, hl2, hlen, hf⟩ := DataW.trod_struct ht hr
  have := h cs (hl.trans hm) (fun f hfm => by
    obtain ⟨i, hi⟩ := List.mem_iff_getElem?.1 hfm
    have hi : fs[i]? = some f := by simpa using hi
    have hlt : i < xs.length := by
      have := (Array.getElem?_eq_some_iff.1 hi).1
      simp_all
    have := hf i f hi
    exact ⟨n, xs[i], by simpa [List.getElem?_eq_getElem hlt] using this⟩)
  simpa using this
theorem spot_none {a : Addr} {v : Value} (h : W.cell? a = some v) : a.spot = none := by
  unfold World.cell? at h
  split at h
  · split at h
    · cases h
    · rename_i hn; cases hs : a.spot with
      | none => rfl
      | some x => rw [hs] at hn; exact absurd rfl hn
  · cases h
theorem addr_add {a : Addr} (hs : a.spot = none) (i : Nat) : a.add i = ⟨a.block, a.off + i, none⟩ := by
  unfold Addr.add
  split
  · rename_i h; subst h; obtain ⟨b, o, s⟩ := a; simp only at hs; subst hs; rfl
  · rfl
theorem RdK.slice {α : Type} {d : Kd α} {t e e' : TypeId} {good : α → Prop} (ht : P.underlying t = some (.slice e)) (hc : P.cellsOf e = d.sz) (hk : 1 ≤ d.sz) (h : RdK enc P W d e good) :
    RdK enc P W (Kd.slice e' d) t (fun l => l.length ≤ maxLen ∧ ∀ x ∈ l, good x) := by
  rintro cs ⟨fuel, x, hr⟩ _
  rcases Go.Deep.open_slice ht hr with ⟨rfl, _⟩ | ⟨a, len, cap, m, n, D, Pl, rfl, _, hl, hm, hmm, _, hx⟩
  · exact ⟨[], ⟨Nat.zero_le _, by simp⟩, none, 0, rfl, Nat.le_refl _, rfl, by simp, fun h0 => by simp at h0⟩
  · simp only [if_true] at hmm
    by_cases h0 : len = 0
    · subst h0
      exact ⟨[], ⟨Nat.zero_le _, by simp⟩, some a, cap, rfl, Nat.zero_le _, rfl, by simp, fun h0 => by simp at h0⟩
    have at_ : ∀ i, i < len → ∃ (x : α) (cs : List Value), W.cells? 0 (a.add (i * d.sz)) d.sz = some cs ∧ good x ∧ d.K W x cs := by
      intro i hi
      obtain ⟨cs', h1, h2⟩ := hx i (by omega)
      rw [hc] at h1
      obtain ⟨_, hlen, _⟩ := World.cells?_some h1
      obtain ⟨x, q1, q2⟩ := h cs' ⟨_, _, h2⟩ (hlen.trans hc.symm)
      exact ⟨x, cs', h1, q1, q2⟩
    obtain ⟨x0, cs0, z1, _, _⟩ := at_ 0 (by omega)
    have hsp : a.spot = none := by
      obtain ⟨_, s1, s2⟩ := World.cells?_some z1
      have h00 := s2 0 (by omega)
      have hzz : (a.add (0 * d.sz)).add 0 = a := by simp [Addr.add]
      rw [hzz] at h00
      rw [List.getElem?_eq_getElem (by omega)] at h00
      exact spot_none h00
    have each : ∀ i, ∃ (x : α) (cs : List Value), i < len → (W.cells? 0 (a.add (i * d.sz)) d.sz = some cs ∧ good x ∧ d.K W x cs) := by
      intro i
      by_cases hi : i < len
      · obtain ⟨x, cs, q⟩ := at_ i hi
        exact ⟨x, cs, fun _ => q⟩
      · exact ⟨x0, [], fun h => absurd h hi⟩
    obtain ⟨X, hX⟩ := Classical.axiomOfChoice each
    obtain ⟨C, hC⟩ := Classical.axiomOfChoice hX
    have hmx : len ≤ 9223372036854775807 := by have : maxLen = 9223372036854775807 := rfl; omega
    refine ⟨(List.range len).map X, ⟨by simp; omega, fun x hx => ?_⟩, some a, cap, by simp, by simpa using hl, by simp, by simpa using hmx, fun _ => ⟨a, rfl, fun i x hi => ?_⟩⟩
    · obtain ⟨i, hi, rfl⟩ := List.mem_map.1 hx
      exact (hC i (List.mem_range.1 hi)).2.1
    · have hilt : i < len := by have := (List.getElem?_eq_some_iff.1 hi).1; simpa using this
      have hx : X i = x := by simpa [hilt] using hi
      obtain ⟨q1, q2, q3⟩ := hC i hilt
      obtain ⟨_, r1, r2⟩ := World.cells?_some q1
      refine ⟨C i, r1, hx ▸ q3, fun j u hj => ?_⟩
      have hjl : j < (C i).length := (List.getElem?_eq_some_iff.1 hj).1
      have h2 := r2 j (by omega)
      rw [addr_add hsp, addr_add rfl] at h2
      rw [addr_add hsp, ← Nat.add_assoc, h2]; exact hj
end Go.Rd

namespace Go.Proofs.Ytjjagjehaoidbaa.rankDoes
open Go.ChangeShapes Go.WideShapes Go.ChangeAt Go.RowKit Go.Rd Go.Proofs.YtjjagjehaoidbaaW.PrintWords
open Go.ChangeMaps (open_string shut_string)
set_option linter.unusedVariables false
theorem own : ownKnob Try.prog.godebug = none := by kernel_rfl
theorem laidOut : laidOutB Try.prog = true := by kernel_rfl
theorem rd24 {H : Type} {enc : TypeId × Value → H} {W : World} : RdK enc Try.prog W Go.Proofs.Ytjjagjehaoidbaa.P.k24 24 (fun x => (Lit.int .i64 x.f0).wf = true ∧ (Lit.int .i64 x.f1).wf = true) :=
  RdK.iso (RdK.struct (m := 2) Try.underlying24 (by kernel_rfl) (RdF.cons (o := 0) (n := 1) (RdK.int Try.underlying3) rfl (by kernel_rfl) (by decide) (RdF.last (o := 1) (n := 1) (RdK.int Try.underlying3) rfl (by kernel_rfl) rfl))) (fun p => ⟨p.1, p.2⟩) (fun _ => rfl)
theorem rd34 {H : Type} {enc : TypeId × Value → H} {W : World} : RdK enc Try.prog W Go.Proofs.Ytjjagjehaoidbaa.P.k34 34 (fun x => ((Lit.int .i64 x.f0.f0).wf = true ∧ (Lit.int .i64 x.f0.f1).wf = true) ∧ (Lit.int .i64 x.f1).wf = true ∧ (Lit.int .i64 x.f2).wf = true ∧ (Lit.int .i64 x.f3).wf = true ∧ (Lit.int .i64 x.f4).wf = true) :=
  RdK.iso (RdK.struct (m := 6) Try.underlying34 (by kernel_rfl) (RdF.cons (o := 0) (n := 2) rd24 rfl (by kernel_rfl) (by decide) (RdF.cons (o := 2) (n := 1) (RdK.int Try.underlying3) rfl (by kernel_rfl) (by decide) (RdF.cons (o := 3) (n := 1) (RdK.int Try.underlying3) rfl (by kernel_rfl) (by decide) (RdF.cons (o := 4) (n := 1) (RdK.int Try.underlying3) rfl (by kernel_rfl) (by decide) (RdF.last (o := 5) (n := 1) (RdK.int Try.underlying3) rfl (by kernel_rfl) rfl)))))) (fun p => ⟨p.1, p.2.1, p.2.2.1, p.2.2.2.1, p.2.2.2.2⟩) (fun _ => rfl)
set_option maxRecDepth 100000 in
theorem lifted (os : Os) (started : os.Started) (H : Type) (enc : TypeId × Value → H) :
    ReturnsInHanded {} Try.checked os 3 .any (Rows.rankDoesSpec.pre6 enc Try.prog Try.f3 Rows.rankDoesRow.domain false) (Rows.rankDoesSpec.post enc Try.prog Try.f3 false true false false) := by
  refine returnsInHanded_of_change_sized (C := Try.checked) own started (by kernel_rfl) Try.func3
    (ChangeSpec.witness6 (enc := enc) (C := Try.checked) false ⟨#[], #[.slice none 0 0, .slice none 0 0, .int .i64 0, .agg #[.int .i64 0, .int .i64 0]], []⟩ 8 (by kernel_rfl) (by kernel_rfl) (by kernel_rfl) (by kernel_rfl)) ?_
  intro W base args ds gs before hval0 hW hcnd hsz0 _
  have hval : ∀ (j : Nat) t v, Try.f3.params[j]? = some t → args[j]? = some v → Value.okWide Try.prog W .any base t v := hval0
  have hW' := hW
  obtain ⟨p, q, hA0, hV, rfl, hfz, hnd⟩ := hW
  have hA : DataW.TrodAll enc Try.prog W 0 (fun _ => true) true Try.f3.params.toList args.toList ds p := hA0
  rw [Try.params3] at hA hval
  obtain ⟨v0, vs0, d0, ds0, p0, q0, hargs, rfl, rfl, h0, r0⟩ := trodAll_cons hA
  obtain ⟨v1, vs1, d1, ds1, p1, q1, rfl, rfl, rfl, h1, r1⟩ := trodAll_cons r0
  obtain ⟨v2, vs2, d2, ds2, p2, q2, rfl, rfl, rfl, h2, r2⟩ := trodAll_cons r1
  obtain ⟨v3, vs3, d3, ds3, p3, q3, rfl, rfl, rfl, h3, r3⟩ := trodAll_cons r2
  obtain ⟨rfl, rfl, rfl⟩ := trodAll_nil r3
  obtain rfl : args = #[v0, v1, v2, v3] := by cases args; simp_all
  obtain ⟨rfl, rfl⟩ := trodVars_none hV
  have k0 := h0
  have lt0 : ∀ x ∈ p0, x.block < W.heap.size := by obtain ⟨m, hm⟩ := k0; exact DataW.trod_lt m _ _ _ hm
  obtain ⟨sa0, sl0, sc0, rfl⟩ := okWide_slice Try.underlying22 (hval 0 22 v0 rfl rfl)
  obtain ⟨l0, g0, A0, c0, e0, hc0, hr0⟩ := (RdK.slice (d := Go.Proofs.Ytjjagjehaoidbaa.P.k34) (e' := 34) Try.underlying22 (by kernel_rfl) (by decide) rd34) _ (Read.of h0) (by simp [Value.cells]; kernel_rfl)
  obtain ⟨rfl, rfl, rfl⟩ : sa0 = A0 ∧ sl0 = l0.length ∧ sc0 = c0 := by simpa [Value.cells] using e0
  have k1 := h1
  have lt1 : ∀ x ∈ p1, x.block < W.heap.size := by obtain ⟨m, hm⟩ := k1; exact DataW.trod_lt m _ _ _ hm
  obtain ⟨sa1, sl1, sc1, rfl⟩ := okWide_slice Try.underlying22 (hval 1 22 v1 rfl rfl)
  obtain ⟨l1, g1, A1, c1, e1, hc1, hr1⟩ := (RdK.slice (d := Go.Proofs.Ytjjagjehaoidbaa.P.k34) (e' := 34) Try.underlying22 (by kernel_rfl) (by decide) rd34) _ (Read.of h1) (by simp [Value.cells]; kernel_rfl)
  obtain ⟨rfl, rfl, rfl⟩ : sa1 = A1 ∧ sl1 = l1.length ∧ sc1 = c1 := by simpa [Value.cells] using e1
  have k2 := h2
  have lt2 : ∀ x ∈ p2, x.block < W.heap.size := by obtain ⟨m, hm⟩ := k2; exact DataW.trod_lt m _ _ _ hm
  obtain ⟨a2, rfl, rfl, rfl, g2⟩ := open_int Try.underlying3 (hval 2 3 v2 rfl rfl) h2
  have k3 := h3
  have lt3 : ∀ x ∈ p3, x.block < W.heap.size := by obtain ⟨m, hm⟩ := k3; exact DataW.trod_lt m _ _ _ hm
  obtain ⟨cs3, rfl, hz3⟩ := okWide_struct Try.underlying24 (hval 3 24 v3 rfl rfl)
  obtain ⟨x3, g3, hk3⟩ := rd24 _ (Read.of h3) (by simpa [Value.cells] using hz3)
  obtain rfl : cs3 = #[.int .i64 x3.f0, .int .i64 x3.f1] := Array.toList_inj.1 (Go.Proofs.Ytjjagjehaoidbaa.P.k24_open hk3)
  clear hA0 hval0 hsz0
  obtain ⟨k, hk⟩ := Go.Proofs.Ytjjagjehaoidbaa.P.does_true l0 l1 a2 x3.f0 x3.f1
  refine (Go.Proofs.Ytjjagjehaoidbaa.P.watchmanlaw07_RankDoes.calls k _ _ l0 _ _ l1 a2 x3.f0 x3.f1 true W hr0 hc0 hr1 hc1 hk).mono fun e W' he => ?_
  obtain ⟨rfl, bel⟩ := he
  exact ⟨_, rfl, _, _, _, [], _, [], hW', trodAll_mk1 (shut_bool Try.underlying4 _), (trodAll_cons_mk (Below.trod laidOut (by kernel_rfl) (of_decide_eq_true (by kernel_rfl)) k0 bel lt0) (trodAll_cons_mk (Below.trod laidOut (by kernel_rfl) (of_decide_eq_true (by kernel_rfl)) k1 bel lt1) (trodAll_cons_mk (Below.trod laidOut (by kernel_rfl) (of_decide_eq_true (by kernel_rfl)) k2 bel lt2) (trodAll_cons_mk (Below.trod laidOut (by kernel_rfl) (of_decide_eq_true (by kernel_rfl)) k3 bel lt3) trodAll_mk0)))), rfl, bel.frame _, fun h => by cases h⟩
theorem over : Rows.rankDoesRow.holds Try.pinned (OpenSpec.ofChange Rows.rankDoesSpec) :=
  OpenClaim.holds_of_wide 3 Try.f3 rfl rfl rfl rfl rfl rfl rfl ⟨rfl, rfl, rfl, rfl, rfl⟩ rfl rfl rfl rfl rfl (by kernel_rfl) Try.func3 (by kernel_rfl)
    (of_decide_eq_true (by kernel_rfl)) (by unfold Func.isWrapper; first | (rw [if_pos (by decide +kernel)]; kernel_rfl) | (rw [if_neg (by decide +kernel)]; exact ⟨rfl, rfl⟩))
    (fun os started H enc _ => lifted os started H enc)
end Go.Proofs.Ytjjagjehaoidbaa.rankDoes
namespace Go.Proofs.Ytjjagjehaoidbaa
theorem rankDoes_holds : Rows.RankDoesSaid := rankDoes.over
end Go.Proofs.Ytjjagjehaoidbaa

