/- The statement RankOrder is proved: the call returns true for every input. No conditions. -/
import Derived.Test.YtjjagjehaoidbaaA4
import Derived.WalkKit
import Derived.ProofKit
import Derived.OpenShut
import Derived.Carry
import Derived.SizedLaws
import Derived.Deep.Slices
import Derived.ShutString
import Derived.ChangeOld
import Derived.Below
import Derived.Test.YtjjagjehaoidbaaRows
set_option linter.unusedVariables false
set_option linter.unusedSimpArgs false
set_option linter.unusedSectionVars false
namespace Go.Proofs.Ytjjagjehaoidbaa.P
open Go.RowKit Go.Proofs.YtjjagjehaoidbaaW.PrintWords Go.Proofs.YtjjagjehaoidbaaW.PrintLast Go.Proofs.YtjjagjehaoidbaaW.PrintMore
attribute [local go_sem] max2_int min2_int max_two min_two max_three min_three max_four min_four
set_option linter.unusedVariables false
set_option linter.unusedSimpArgs false
attribute [local go_sem high] eqA34
mutual
def watchmanlaw07_RankSorts.l0 : Nat → List (S34) → List (S34) → Int → Int → Int → Int → Int → Int → Int → Int → Int → Option (Bool)
  | 0, _, _, _, _, _, _, _, _, _, _, _ => none
  | k + 1, x0, x5, x6, x7, x8, x311000, x311001, x311002, x311003, x311004, x311005 => if x8 < (x5.length : Int) then (if x8 > 0 then (if 0 ≤ (wrap64 (x8 - 1)) then (if (wrap64 (x8 - 1)) < (x5.length : Int) then (if 0 ≤ x8 then ((rank_Compare.f ((rd_T34 x5 (wrap64 (x8 - 1))).f0.f0) ((rd_T34 x5 (wrap64 (x8 - 1))).f0.f1) ((rd_T34 x5 (wrap64 (x8 - 1))).f1) ((rd_T34 x5 (wrap64 (x8 - 1))).f2) ((rd_T34 x5 (wrap64 (x8 - 1))).f3) ((rd_T34 x5 (wrap64 (x8 - 1))).f4) ((rd_T34 x5 x8).f0.f0) ((rd_T34 x5 x8).f0.f1) ((rd_T34 x5 x8).f1) ((rd_T34 x5 x8).f2) ((rd_T34 x5 x8).f3) ((rd_T34 x5 x8).f4)).bind fun t316 => (watchmanlaw07_RankSorts.j1 k x0 x5 x6 x7 x8 (decide (t316 > 0)) x311000 x311001 x311002 x311003 x311004 x311005)) else (none)) else (none)) else (none)) else (watchmanlaw07_RankSorts.j1 k x0 x5 x6 x7 x8 false x311000 x311001 x311002 x311003 x311004 x311005)) else (watchmanlaw07_RankSorts.l1 k x0 x5 x6 x7 0 x311000 x311001 x311002 x311003 x311004 x311005)
def watchmanlaw07_RankSorts.j1 : Nat → List (S34) → List (S34) → Int → Int → Int → Bool → Int → Int → Int → Int → Int → Int → Option (Bool)
  | 0, _, _, _, _, _, _, _, _, _, _, _, _ => none
  | k + 1, x0, x5, x6, x7, x8, x35, x311000, x311001, x311002, x311003, x311004, x311005 => if x35 = true then (none) else (if 0 ≤ x8 then (if x8 < (x5.length : Int) then (if ((((rd_T34 x5 x8).f0.f0) == x311000 && (((rd_T34 x5 x8).f0.f1) == x311001)) && (((rd_T34 x5 x8).f1) == x311002 && (((rd_T34 x5 x8).f2) == x311003 && (((rd_T34 x5 x8).f3) == x311004 && (((rd_T34 x5 x8).f4) == x311005))))) = true then (watchmanlaw07_RankSorts.l0 k x0 x5 (wrap64 (x6 + 1)) x7 (wrap64 (x8 + 1)) x311000 x311001 x311002 x311003 x311004 x311005) else (watchmanlaw07_RankSorts.l0 k x0 x5 x6 x7 (wrap64 (x8 + 1)) x311000 x311001 x311002 x311003 x311004 x311005)) else (none)) else (none))
def watchmanlaw07_RankSorts.l1 : Nat → List (S34) → List (S34) → Int → Int → Int → Int → Int → Int → Int → Int → Int → Option (Bool)
  | 0, _, _, _, _, _, _, _, _, _, _, _ => none
  | k + 1, x0, x5, x6, x7, x9, x311000, x311001, x311002, x311003, x311004, x311005 => if x9 < (x0.length : Int) then (if 0 ≤ x9 then (if ((((rd_T34 x0 x9).f0.f0) == x311000 && (((rd_T34 x0 x9).f0.f1) == x311001)) && (((rd_T34 x0 x9).f1) == x311002 && (((rd_T34 x0 x9).f2) == x311003 && (((rd_T34 x0 x9).f3) == x311004 && (((rd_T34 x0 x9).f4) == x311005))))) = true then (watchmanlaw07_RankSorts.l1 k x0 x5 x6 (wrap64 (x7 + 1)) (wrap64 (x9 + 1)) x311000 x311001 x311002 x311003 x311004 x311005) else (watchmanlaw07_RankSorts.l1 k x0 x5 x6 x7 (wrap64 (x9 + 1)) x311000 x311001 x311002 x311003 x311004 x311005)) else (none)) else ((watchmanlaw07_ranked.f k).bind fun t319 => (if t319 = true then (if x6 = x7 then (if (x5.length : Int) = (x0.length : Int) then ((rank_Sort.f x5).bind fun t320 => ((watchmanref07_Same.f k t320 x5).bind fun t323 => (some t323))) else (none)) else (none)) else (none)))
end
def watchmanlaw07_RankSorts.f (k : Nat) (l0 : List (S34)) (a1_0 : Int) (a1_1 : Int) (a1_2 : Int) (a1_3 : Int) (a1_4 : Int) (a1_5 : Int) : Option (Bool) := if (l0.length : Int) > 60 then (some true) else ((rank_Sort.f l0).bind fun t311 => (watchmanlaw07_RankSorts.l0 k l0 t311 0 0 0 a1_0 a1_1 a1_2 a1_3 a1_4 a1_5))
theorem watchmanlaw07_RankSorts.mono_l : ∀ k, (∀ y0 y1 y2 y3 y4 y5 y6 y7 y8 y9 y10, LeO (watchmanlaw07_RankSorts.l0 k y0 y1 y2 y3 y4 y5 y6 y7 y8 y9 y10) (watchmanlaw07_RankSorts.l0 (k + 1) y0 y1 y2 y3 y4 y5 y6 y7 y8 y9 y10)) ∧ (∀ y0 y1 y2 y3 y4 y5 y6 y7 y8 y9 y10 y11, LeO (watchmanlaw07_RankSorts.j1 k y0 y1 y2 y3 y4 y5 y6 y7 y8 y9 y10 y11) (watchmanlaw07_RankSorts.j1 (k + 1) y0 y1 y2 y3 y4 y5 y6 y7 y8 y9 y10 y11)) ∧ (∀ y0 y1 y2 y3 y4 y5 y6 y7 y8 y9 y10, LeO (watchmanlaw07_RankSorts.l1 k y0 y1 y2 y3 y4 y5 y6 y7 y8 y9 y10) (watchmanlaw07_RankSorts.l1 (k + 1) y0 y1 y2 y3 y4 y5 y6 y7 y8 y9 y10))
  | 0 => ⟨fun _ _ _ _ _ _ _ _ _ _ _ r h => by simp [watchmanlaw07_RankSorts.l0] at h, fun _ _ _ _ _ _ _ _ _ _ _ _ r h => by simp [watchmanlaw07_RankSorts.j1] at h, fun _ _ _ _ _ _ _ _ _ _ _ r h => by simp [watchmanlaw07_RankSorts.l1] at h⟩
  | k + 1 => by
    obtain ⟨ih0, ih1, ih2⟩ := watchmanlaw07_RankSorts.mono_l k
    refine ⟨?_, ?_, ?_⟩
    · intro y0 y1 y2 y3 y4 y5 y6 y7 y8 y9 y10
      unfold watchmanlaw07_RankSorts.l0
      repeat' first
      | (with_reducible exact ih0 _ _ _ _ _ _ _ _ _ _ _)
      | (with_reducible exact ih1 _ _ _ _ _ _ _ _ _ _ _ _)
      | (with_reducible exact ih2 _ _ _ _ _ _ _ _ _ _ _)
      | (with_reducible exact watchmanlaw07_ranked.mono _)
      | (with_reducible exact watchmanref07_Same.mono _ _ _)
      | (with_reducible exact LeO.refl _)
      | (with_reducible exact LeO.none _)
      | (with_reducible refine LeO.ite ?_ ?_)
      | (with_reducible refine LeO.bind ?_ (fun _ => ?_))
      | exact ih0 _ _ _ _ _ _ _ _ _ _ _
      | exact ih1 _ _ _ _ _ _ _ _ _ _ _ _
      | exact ih2 _ _ _ _ _ _ _ _ _ _ _
      | exact watchmanlaw07_ranked.mono _
      | exact watchmanref07_Same.mono _ _ _
      | exact LeO.none _
      | refine LeO.ite ?_ ?_
      | refine LeO.bind ?_ (fun _ => ?_)
    · intro y0 y1 y2 y3 y4 y5 y6 y7 y8 y9 y10 y11
      unfold watchmanlaw07_RankSorts.j1
      repeat' first
      | (with_reducible exact ih0 _ _ _ _ _ _ _ _ _ _ _)
      | (with_reducible exact ih1 _ _ _ _ _ _ _ _ _ _ _ _)
      | (with_reducible exact ih2 _ _ _ _ _ _ _ _ _ _ _)
      | (with_reducible exact watchmanlaw07_ranked.mono _)
      | (with_reducible exact watchmanref07_Same.mono _ _ _)
      | (with_reducible exact LeO.refl _)
      | (with_reducible exact LeO.none _)
      | (with_reducible refine LeO.ite ?_ ?_)
      | (with_reducible refine LeO.bind ?_ (fun _ => ?_))
      | exact ih0 _ _ _ _ _ _ _ _ _ _ _
      | exact ih1 _ _ _ _ _ _ _ _ _ _ _ _
      | exact ih2 _ _ _ _ _ _ _ _ _ _ _
      | exact watchmanlaw07_ranked.mono _
      | exact watchmanref07_Same.mono _ _ _
      | exact LeO.none _
      | refine LeO.ite ?_ ?_
      | refine LeO.bind ?_ (fun _ => ?_)
    · intro y0 y1 y2 y3 y4 y5 y6 y7 y8 y9 y10
      unfold watchmanlaw07_RankSorts.l1
      repeat' first
      | (with_reducible exact ih0 _ _ _ _ _ _ _ _ _ _ _)
      | (with_reducible exact ih1 _ _ _ _ _ _ _ _ _ _ _ _)
      | (with_reducible exact ih2 _ _ _ _ _ _ _ _ _ _ _)
      | (with_reducible exact watchmanlaw07_ranked.mono _)
      | (with_reducible exact watchmanref07_Same.mono _ _ _)
      | (with_reducible exact LeO.refl _)
      | (with_reducible exact LeO.none _)
      | (with_reducible refine LeO.ite ?_ ?_)
      | (with_reducible refine LeO.bind ?_ (fun _ => ?_))
      | exact ih0 _ _ _ _ _ _ _ _ _ _ _
      | exact ih1 _ _ _ _ _ _ _ _ _ _ _ _
      | exact ih2 _ _ _ _ _ _ _ _ _ _ _
      | exact watchmanlaw07_ranked.mono _
      | exact watchmanref07_Same.mono _ _ _
      | exact LeO.none _
      | refine LeO.ite ?_ ?_
      | refine LeO.bind ?_ (fun _ => ?_)
theorem watchmanlaw07_RankSorts.mono : ∀ a0 a1 a2 a3 a4 a5 a6 k, LeO (watchmanlaw07_RankSorts.f k a0 a1 a2 a3 a4 a5 a6) (watchmanlaw07_RankSorts.f (k + 1) a0 a1 a2 a3 a4 a5 a6) := by
  intro a0 a1 a2 a3 a4 a5 a6 k
  obtain ⟨ih0, ih1, ih2⟩ := watchmanlaw07_RankSorts.mono_l k
  unfold watchmanlaw07_RankSorts.f
  repeat' first
      | (with_reducible exact ih0 _ _ _ _ _ _ _ _ _ _ _)
      | (with_reducible exact ih1 _ _ _ _ _ _ _ _ _ _ _ _)
      | (with_reducible exact ih2 _ _ _ _ _ _ _ _ _ _ _)
      | (with_reducible exact watchmanlaw07_ranked.mono _)
      | (with_reducible exact watchmanref07_Same.mono _ _ _)
      | (with_reducible exact LeO.refl _)
      | (with_reducible exact LeO.none _)
      | (with_reducible refine LeO.ite ?_ ?_)
      | (with_reducible refine LeO.bind ?_ (fun _ => ?_))
      | exact ih0 _ _ _ _ _ _ _ _ _ _ _
      | exact ih1 _ _ _ _ _ _ _ _ _ _ _ _
      | exact ih2 _ _ _ _ _ _ _ _ _ _ _
      | exact watchmanlaw07_ranked.mono _
      | exact watchmanref07_Same.mono _ _ _
      | exact LeO.none _
      | refine LeO.ite ?_ ?_
      | refine LeO.bind ?_ (fun _ => ?_)
def watchmanlaw07_RankSorts.T9 : Bool × List (List Nat × List Nat) := (true, [([], []), ([0], [0]), ([1], [1]), ([2], [2]), ([2], [2]), ([4, 2], [2, 4]), ([3, 5, 2], [2, 3, 5]), ([6, 2], [2, 6]), ([2], [2]), ([2], [2]), ([8, 9, 2], [2, 8, 9]), ([10, 2], [2, 10]), ([7, 11, 2, 2], [2, 7, 11]), ([12, 2], [2, 12]), ([2, 13], [2, 13])])
def watchmanlaw07_RankSorts.B9 : List Nat := [0, 1, 3, 7, 7, 23, 63, 127, 7, 7, 775, 1799, 4095, 8191, 16383]
theorem watchmanlaw07_RankSorts.tab9 : rtab .any (opsOf Try.f5 9) = watchmanlaw07_RankSorts.T9 := by kernel_rfl
theorem watchmanlaw07_RankSorts.bits9 : waitsOk watchmanlaw07_RankSorts.T9.2 watchmanlaw07_RankSorts.B9 = true := by kernel_rfl
set_option maxHeartbeats 8000000 in
set_option maxRecDepth 100000 in
theorem watchmanlaw07_RankSorts.calls (k : Nat) (A0 : Option Addr) (c0 : Nat) (l0 : List (S34)) (a1_0 : Int) (a1_1 : Int) (a1_2 : Int) (a1_3 : Int) (a1_4 : Int) (a1_5 : Int) (r : Bool) (w : World) (hr0 : Kd.C k34 w A0 l0.length l0) (hc0 : l0.length ≤ c0) (h : watchmanlaw07_RankSorts.f k l0 a1_0 a1_1 a1_2 a1_3 a1_4 a1_5 = some r) :
    Calls Try.prog 5 #[.slice A0 l0.length c0, .agg #[.int .i64 a1_0, .int .i64 a1_1, .int .i64 a1_2, .int .i64 a1_3, .int .i64 a1_4, .int .i64 a1_5]] w fun e w' => e = .returned (.bool r) ∧ Below w.heap.size w w' := by
  have hu34 := Try.underlying34
  have HR0 := Aside0.mk hr0
  have HC0 := Aside0.mk hc0
  clear hr0 hc0
  have HB := Aside0.mk (Below.refl w.heap.size w)
  have H : (if (l0.length : Int) > 60 then (some true) else ((rank_Sort.f l0).bind fun t311 => (watchmanlaw07_RankSorts.l0 k l0 t311 0 0 0 a1_0 a1_1 a1_2 a1_3 a1_4 a1_5))) = some r := h
  clear h
  by_cases c3 : (l0.length : Int) > 60
  · rw [if_pos c3] at H
    have c3b0 : decide (60 < (l0.length : Int)) = true := decide_eq_true c3
    have c3b1 : decide (60 < l0.length) = true := decide_eq_true (by omega)
    clear c3
    obtain rfl := Option.some.inj H
    go_enter Try.func5, Try.ntmps5
    go_wp2_with (first | ((with_reducible refine gate_dst (N := 3) rfl ?_); (try (refine gate_guard (by rfl) ?_; dsimp only)); refine box_event ?hg (N := 3) ?hd (cs := #[.int .i64 a1_0, .int .i64 a1_1, .int .i64 a1_2, .int .i64 a1_3, .int .i64 a1_4, .int .i64 a1_5]) (t := 34) ?hr ?_; (case hd => rfl); (case hg => rfl); (case hr => first | (go_simp; done) | (go_simp; rfl)); intro gb310 hg w4 hbox hb; have n0_ := Aside0.mk (below_step (by repeat (first | (with_reducible first | exact HB.out | apply below_alloc | apply pw_below_drewN | apply below_drew1) | exact HB.out)) hb); have n1_ := Aside0.mk (hbox); have n2_ := Aside0.mk ((by rw [hg]; exact (below_size (by repeat (first | (with_reducible first | exact HB.out | apply below_alloc | apply pw_below_drewN | apply below_drew1) | exact HB.out))) : w.heap.size ≤ gb310)); have n3_ := Aside0.mk ((by rw [hg]; exact (below_size (by repeat (first | (with_reducible first | exact HB.out | apply below_alloc | apply pw_below_drewN | apply below_drew1) | exact HB.out))) : w.heap.size ≤ gb310)); clear HB; have HB := n0_; have BK310 := n1_; have GW310 := n2_; have GE310 := n3_; clear n0_ n1_ n2_ n3_; clear hb hbox hg))
    go_ret
    exact ⟨by first | rfl | (simp [errW_none, errW_some] <;> rfl) | (simp [*, errW_none, errW_some] <;> rfl), by repeat (first | (with_reducible first | exact HB.out | apply below_alloc | apply pw_below_drewN | apply below_drew1 | refine below_set ?_ GE310.out) | exact HB.out)⟩
  · rw [if_neg c3] at H
    have c3b0 : decide (60 < (l0.length : Int)) = false := decide_eq_false c3
    have c3b1 : decide (60 < l0.length) = false := decide_eq_false (by omega)
    clear c3
    replace H := Option.bind_eq_some_iff.mp H
    obtain ⟨t311, A50, H⟩ := H
    replace H : (watchmanlaw07_RankSorts.l0 k l0 t311 0 0 0 a1_0 a1_1 a1_2 a1_3 a1_4 a1_5) = some r := H
    have A5 := Aside0.mk A50
    clear A50
    have H' := Aside0.mk H
    clear H
    go_enter Try.func5, Try.ntmps5
    go_wp2_with (first | ((with_reducible refine gate_dst (N := 3) rfl ?_); (try (refine gate_guard (by rfl) ?_; dsimp only)); refine box_event ?hg (N := 3) ?hd (cs := #[.int .i64 a1_0, .int .i64 a1_1, .int .i64 a1_2, .int .i64 a1_3, .int .i64 a1_4, .int .i64 a1_5]) (t := 34) ?hr ?_; (case hd => rfl); (case hg => rfl); (case hr => first | (go_simp; done) | (go_simp; rfl)); intro gb310 hg w6 hbox hb; have n0_ := Aside0.mk (below_step (by repeat (first | (with_reducible first | exact HB.out | apply below_alloc | apply pw_below_drewN | apply below_drew1) | exact HB.out)) hb); have n1_ := Aside0.mk (hbox); have n2_ := Aside0.mk ((by rw [hg]; exact (below_size (by repeat (first | (with_reducible first | exact HB.out | apply below_alloc | apply pw_below_drewN | apply below_drew1) | exact HB.out))) : w.heap.size ≤ gb310)); have n3_ := Aside0.mk ((by rw [hg]; exact (below_size (by repeat (first | (with_reducible first | exact HB.out | apply below_alloc | apply pw_below_drewN | apply below_drew1) | exact HB.out))) : w.heap.size ≤ gb310)); clear HB; have HB := n0_; have BK310 := n1_; have GW310 := n2_; have GE310 := n3_; clear n0_ n1_ n2_ n3_; clear hb hbox hg) | ((with_reducible refine gate_callee (f := 9) rfl ?_); refine goesL_ (some 14) rfl rfl Try.func9 (by kernel_rfl) rfl #[.slice A0 l0.length c0] rfl (by (try simp only [List.map_toArray, List.map_cons, List.map_nil]); first | done | rfl | (simp only [List.length_drop, List.length_take]; rfl)) ?_; (with_reducible refine (rank_Sort.calls _ _ l0 t311 _ ?side1 ?side2 A5.out).mono ?_); (case side1 => repeat (first | exact (Kd.C_below HR0.out HB.out) | (with_reducible refine Kd.C_alloc ?_ _) | (with_reducible refine Kd.C_drewN ?_ _) | (with_reducible refine Kd.C_drew ?_))); (case side2 => exact HC0.out); rintro e w7 ⟨v312, rfl, ho0, hb⟩; refine ⟨_, rfl, ?_⟩; have n0_ := Aside0.mk (Kd.R_lower (Kd.R_newB ho0 (g := gb310) (o := .cells #[.int .i64 a1_0, .int .i64 a1_1, .int .i64 a1_2, .int .i64 a1_3, .int .i64 a1_4, .int .i64 a1_5] 34 (0, 0)) (by (with_reducible repeat (first | refine blk_drewN ?_ _ | refine blk_drew ?_ | refine blk_alloc ?_ _)); exact BK310.out)) (below_size (by repeat (first | (with_reducible first | exact HB.out | apply below_alloc | apply pw_below_drewN | apply below_drew1 | refine below_set ?_ GE310.out) | exact HB.out)))); have n1_ := Aside0.mk (blk_below (g := gb310) (o := .cells #[.int .i64 a1_0, .int .i64 a1_1, .int .i64 a1_2, .int .i64 a1_3, .int .i64 a1_4, .int .i64 a1_5] 34 (0, 0)) (by (with_reducible repeat (first | refine blk_drewN ?_ _ | refine blk_drew ?_ | refine blk_alloc ?_ _)); exact BK310.out) hb); have n2_ := Aside0.mk (below_step (by repeat (first | (with_reducible first | exact HB.out | apply below_alloc | apply pw_below_drewN | apply below_drew1 | refine below_set ?_ GE310.out) | exact HB.out)) hb); clear BK310; clear HB; have HO313 := n0_; have BK310 := n1_; have HB := n2_; clear n0_ n1_ n2_; (try clear hb); (try clear hb2); (try clear hk); (try clear hi); (try clear ho0)))
    go_loopg [6, 8] k (fun kq v6 v8 w' => ∃ (x6_1 : Int) (x8_1 : Int), v6 = .int .i64 x6_1 ∧ v8 = .int .i64 x8_1 ∧ Aside0 (watchmanlaw07_RankSorts.l0 kq l0 t311 x6_1 0 x8_1 a1_0 a1_1 a1_2 a1_3 a1_4 a1_5 = some r) ∧ Aside0 (kq ≤ k) ∧ Aside0 (Kd.R k34 34 w' w.heap.size (fun k_ => k_ ≠ gb310) v312 t311) ∧ Aside0 (w'.heap[gb310]? = some (.cells #[.int .i64 a1_0, .int .i64 a1_1, .int .i64 a1_2, .int .i64 a1_3, .int .i64 a1_4, .int .i64 a1_5] 34 (0, 0))) ∧ Aside0 (Below w.heap.size w w'))
    case atStart => exact ⟨(0), (0), (by first | rfl | (simp; done) | (simp [*]; done)), (by first | rfl | (simp; done) | (simp [*]; done)), H', ⟨Nat.le_refl _⟩, ⟨by (with_reducible repeat (first | apply Kd.R_alloc | apply Kd.R_drewN | apply Kd.R_drew)); exact Kd.R_mono HO313.out (fun _ hk => hk.2)⟩, ⟨by (with_reducible repeat (first | refine blk_drewN ?_ _ | refine blk_drew ?_ | refine blk_alloc ?_ _)); exact BK310.out⟩, ⟨by repeat (first | (with_reducible first | exact HB.out | apply below_alloc | apply pw_below_drewN | apply below_drew1 | refine below_set ?_ GE310.out) | exact HB.out)⟩⟩
    case round =>
      clear H'
      try clear p2
      try clear c3
      try clear c3b0
      try clear c3b1
      try clear c5
      obtain ⟨x6_1, x8_1, rfl, rfl, HA, HK1, HO_5, BK310, HB⟩ := hrel
      cases gk with
      | zero => exact absurd HA.out (by simp [watchmanlaw07_RankSorts.l0])
      | succ k1 =>
        have H := HA.out
        clear HA
        simp only [watchmanlaw07_RankSorts.l0] at H
        by_cases c8 : x8_1 < (t311.length : Int)
        · rw [if_pos c8] at H
          have c8b0 : decide (x8_1 < (t311.length : Int)) = true := decide_eq_true c8
          clear c8
          have HC9 := Aside0.mk H
          clear H
          obtain ⟨Ao10, co10, eo10⟩ := Kd.R_slice HO_5.out
          subst eo10
          go_upto_region 9 with (fail)
          go_cut [35] (fun v35 wc => ∃ (kq : Nat) (x35_8 : Bool), v35 = .bool x35_8 ∧ Aside0 (watchmanlaw07_RankSorts.j1 kq l0 t311 x6_1 0 x8_1 x35_8 a1_0 a1_1 a1_2 a1_3 a1_4 a1_5 = some r) ∧ Aside0 (kq ≤ k1) ∧ Aside0 (Kd.R k34 34 wc w.heap.size (fun k_ => k_ ≠ gb310) (.slice Ao10 t311.length co10) t311) ∧ Aside0 (wc.heap[gb310]? = some (.cells #[.int .i64 a1_0, .int .i64 a1_1, .int .i64 a1_2, .int .i64 a1_3, .int .i64 a1_4, .int .i64 a1_5] 34 (0, 0))) ∧ Aside0 (Below w.heap.size w wc))
          case first =>
            have H := HC9.out
            clear HC9
            by_cases c11 : x8_1 > 0
            · rw [if_pos c11] at H
              have c11b0 : decide (0 < x8_1) = true := decide_eq_true c11
              clear c11
              (first | rw [c11b0] | (simp only [i64_w, i32_w]; rw [c11b0]) | skip)
              obtain ⟨ji12, hji12⟩ : ∃ j_ : Int, (wrap64 (x8_1 - 1)) = j_ := ⟨_, rfl⟩
              replace H : (if 0 ≤ (ji12) then (if (ji12) < (t311.length : Int) then (if 0 ≤ x8_1 then ((rank_Compare.f ((rd_T34 t311 (ji12)).f0.f0) ((rd_T34 t311 (ji12)).f0.f1) ((rd_T34 t311 (ji12)).f1) ((rd_T34 t311 (ji12)).f2) ((rd_T34 t311 (ji12)).f3) ((rd_T34 t311 (ji12)).f4) ((rd_T34 t311 x8_1).f0.f0) ((rd_T34 t311 x8_1).f0.f1) ((rd_T34 t311 x8_1).f1) ((rd_T34 t311 x8_1).f2) ((rd_T34 t311 x8_1).f3) ((rd_T34 t311 x8_1).f4)).bind fun t316 => (watchmanlaw07_RankSorts.j1 k1 l0 t311 x6_1 0 x8_1 (decide (t316 > 0)) a1_0 a1_1 a1_2 a1_3 a1_4 a1_5)) else (none)) else (none)) else (none)) = some r := by first | (rw [hji12] at H; exact H) | (simp only [hji12] at H ⊢; exact H)
              have hji12w : (IntKind.i64.wrap (x8_1 - 1)) = ji12 := (i64_w _).trans hji12
              by_cases c13 : 0 ≤ (ji12)
              · rw [if_pos c13] at H
                have c13b0 : decide (0 ≤ (ji12)) = true := decide_eq_true c13
                clear c13
                by_cases c14 : (ji12) < (t311.length : Int)
                · rw [if_pos c14] at H
                  have c14b0 : decide ((ji12) < (t311.length : Int)) = true := decide_eq_true c14
                  clear c14
                  by_cases c15 : 0 ≤ x8_1
                  · rw [if_pos c15] at H
                    have c15b0 : decide (0 ≤ x8_1) = true := decide_eq_true c15
                    clear c15
                    replace H := Option.bind_eq_some_iff.mp H
                    obtain ⟨t316, A160, H⟩ := H
                    replace H : (watchmanlaw07_RankSorts.j1 k1 l0 t311 x6_1 0 x8_1 (decide (t316 > 0)) a1_0 a1_1 a1_2 a1_3 a1_4 a1_5) = some r := H
                    have A16 := Aside0.mk A160
                    clear A160
                    have H' := Aside0.mk H
                    clear H
                    try go_wp2
                    have n0_ := Aside0.mk (Kd.R_drew HO_5.out)
                    have n1_ := Aside0.mk (blk_drew BK310.out)
                    have n2_ := Aside0.mk (below_drew1 HB.out)
                    clear HO_5
                    clear BK310
                    clear HB
                    have HO_5 := n0_
                    have BK310 := n1_
                    have HB := n2_
                    clear n0_ n1_ n2_
                    have p314 : 0 ≤ ((ji12) : Int) := of_decide_eq_true (by first | (with_reducible assumption) | assumption)
                    have q314 : (ji12) < (t311.length : Int) := of_decide_eq_true (by first | (with_reducible assumption) | assumption)
                    obtain ⟨ad314, e314, hx314_0, hx314_1, hx314_2, hx314_3, hx314_4, hx314_5⟩ := at_T34 (Kd.R_reads' HO_5.out).2.2 (ji12) p314 q314
                    cases e314
                    replace p314 := eq_true p314
                    replace q314 := eq_true q314
                    have p315 : 0 ≤ (x8_1 : Int) := of_decide_eq_true (by first | (with_reducible assumption) | assumption)
                    have q315 : x8_1 < (t311.length : Int) := of_decide_eq_true (by first | (with_reducible assumption) | assumption)
                    obtain ⟨ad315, e315, hx315_0, hx315_1, hx315_2, hx315_3, hx315_4, hx315_5⟩ := at_T34 (Kd.R_reads' HO_5.out).2.2 x8_1 p315 q315
                    obtain rfl : ad314 = ad315 := (by injection e315)
                    replace p315 := eq_true p315
                    replace q315 := eq_true q315
                    refine start_ (n := 15) (S := fun w' => w'.cell? (ad314.add (((ji12)).toNat * 6)) = some (.int .i64 ((rd_T34 t311 (ji12)).f0.f0)) ∧ w'.cell? ⟨(ad314.add (((ji12)).toNat * 6)).block, (ad314.add (((ji12)).toNat * 6)).off + 1, none⟩ = some (.int .i64 ((rd_T34 t311 (ji12)).f0.f1)) ∧ w'.cell? ⟨(ad314.add (((ji12)).toNat * 6)).block, (ad314.add (((ji12)).toNat * 6)).off + 2, none⟩ = some (.int .i64 ((rd_T34 t311 (ji12)).f1)) ∧ w'.cell? ⟨(ad314.add (((ji12)).toNat * 6)).block, (ad314.add (((ji12)).toNat * 6)).off + 3, none⟩ = some (.int .i64 ((rd_T34 t311 (ji12)).f2)) ∧ w'.cell? ⟨(ad314.add (((ji12)).toNat * 6)).block, (ad314.add (((ji12)).toNat * 6)).off + 4, none⟩ = some (.int .i64 ((rd_T34 t311 (ji12)).f3)) ∧ w'.cell? ⟨(ad314.add (((ji12)).toNat * 6)).block, (ad314.add (((ji12)).toNat * 6)).off + 5, none⟩ = some (.int .i64 ((rd_T34 t311 (ji12)).f4)) ∧ w'.cell? (ad314.add ((x8_1).toNat * 6)) = some (.int .i64 ((rd_T34 t311 x8_1).f0.f0)) ∧ w'.cell? ⟨(ad314.add ((x8_1).toNat * 6)).block, (ad314.add ((x8_1).toNat * 6)).off + 1, none⟩ = some (.int .i64 ((rd_T34 t311 x8_1).f0.f1)) ∧ w'.cell? ⟨(ad314.add ((x8_1).toNat * 6)).block, (ad314.add ((x8_1).toNat * 6)).off + 2, none⟩ = some (.int .i64 ((rd_T34 t311 x8_1).f1)) ∧ w'.cell? ⟨(ad314.add ((x8_1).toNat * 6)).block, (ad314.add ((x8_1).toNat * 6)).off + 3, none⟩ = some (.int .i64 ((rd_T34 t311 x8_1).f2)) ∧ w'.cell? ⟨(ad314.add ((x8_1).toNat * 6)).block, (ad314.add ((x8_1).toNat * 6)).off + 4, none⟩ = some (.int .i64 ((rd_T34 t311 x8_1).f3)) ∧ w'.cell? ⟨(ad314.add ((x8_1).toNat * 6)).block, (ad314.add ((x8_1).toNat * 6)).off + 5, none⟩ = some (.int .i64 ((rd_T34 t311 x8_1).f4))) (ds := []) #[false, false, false, false, false, false, false, false, false, false, false, false, false, false, false] (by kernel_rfl) rfl rfl ⟨hx314_0, hx314_1, hx314_2, hx314_3, hx314_4, hx314_5, hx315_0, hx315_1, hx315_2, hx315_3, hx315_4, hx315_5⟩ (fun hHeld => ?_); refine with_tabW watchmanlaw07_RankSorts.tab9 watchmanlaw07_RankSorts.bits9 (fun HT_ HW_ => ?_)
                    generalize wr.drew = w17 at HO_5 BK310 HB hx314_0 hx314_1 hx314_2 hx314_3 hx314_4 hx314_5 hx315_0 hx315_1 hx315_2 hx315_3 hx315_4 hx315_5 hHeld ⊢
                    refine pure_ (i := 0) (N := some 21) (v := ?_) (a' := ?_) #[true, false, false, false, false, false, false, false, false, false, false, false, false, false, false] rfl rfl (any_of HT_.out (by kernel_rfl)) (fun _ _ _ h => h) (Or.inl ⟨by rfl, ?_⟩) ?_ ?_
                    rotate_left
                    · intro w'
                      go_simp
                      with_reducible rfl
                    rotate_left
                    · simp only [Act.put, List.setIfInBounds_toArray, List.set_cons_zero, List.set_cons_succ, i64_w, i32_w]
                      rfl
                    refine pure_ (i := 1) (N := some 22) (v := ?_) (a' := ?_) #[true, true, false, false, false, false, false, false, false, false, false, false, false, false, false] rfl rfl (any_of HT_.out (by kernel_rfl)) (fun _ _ _ h => h) (Or.inl ⟨by rfl, ?_⟩) ?_ ?_
                    rotate_left
                    · intro w'
                      go_simp
                      with_reducible rfl
                    rotate_left
                    · simp only [Act.put, List.setIfInBounds_toArray, List.set_cons_zero, List.set_cons_succ, i64_w, i32_w]
                      rfl
                    refine pure_ (i := 2) (N := some 23) (v := ?_) (a' := ?_) #[true, true, true, false, false, false, false, false, false, false, false, false, false, false, false] rfl rfl (any_of HT_.out (by kernel_rfl)) (fun _ _ _ h => h) (Or.inl ⟨by rfl, ?_⟩) ?_ ?_
                    rotate_left
                    · intro w'
                      go_simp
                      with_reducible rfl
                    rotate_left
                    · simp only [Act.put, List.setIfInBounds_toArray, List.set_cons_zero, List.set_cons_succ, i64_w, i32_w]
                      rfl
                    refine pure_ (i := 3) (N := some 24) (v := ?_) (a' := ?_) #[true, true, true, true, false, false, false, false, false, false, false, false, false, false, false] rfl rfl (any_of HT_.out (by kernel_rfl)) (fun _ _ _ h => h) (Or.inl ⟨by rfl, ?_⟩) ?_ ?_
                    rotate_left
                    · intro w'
                      go_simp
                      with_reducible rfl
                    rotate_left
                    · simp only [Act.put, List.setIfInBounds_toArray, List.set_cons_zero, List.set_cons_succ, i64_w, i32_w]
                      rfl
                    refine pure_ (i := 4) (N := some 25) (v := ?_) (a' := ?_) #[true, true, true, true, true, false, false, false, false, false, false, false, false, false, false] rfl rfl (any_of HT_.out (by kernel_rfl)) (fun _ _ _ h => h) (Or.inl ⟨by rfl, ?_⟩) ?_ ?_
                    rotate_left
                    · intro w'
                      go_simp
                      with_reducible rfl
                    rotate_left
                    · simp only [Act.put, List.setIfInBounds_toArray, List.set_cons_zero, List.set_cons_succ, i64_w, i32_w]
                      rfl
                    refine pure_ (i := 5) (N := some 26) (v := ?_) (a' := ?_) #[true, true, true, true, true, true, false, false, false, false, false, false, false, false, false] rfl rfl (any_of HT_.out (by kernel_rfl)) (fun _ _ _ h => h) (Or.inl ⟨by rfl, ?_⟩) ?_ ?_
                    rotate_left
                    · intro w'
                      go_simp
                      with_reducible rfl
                    rotate_left
                    · simp only [Act.put, List.setIfInBounds_toArray, List.set_cons_zero, List.set_cons_succ, i64_w, i32_w]
                      rfl
                    refine pure_ (i := 6) (N := some 27) (v := ?_) (a' := ?_) #[true, true, true, true, true, true, true, false, false, false, false, false, false, false, false] rfl rfl (any_of HT_.out (by kernel_rfl)) (fun _ _ _ h => h) (Or.inl ⟨by rfl, ?_⟩) ?_ ?_
                    rotate_left
                    · intro w'
                      go_simp
                      with_reducible rfl
                    rotate_left
                    · simp only [Act.put, List.setIfInBounds_toArray, List.set_cons_zero, List.set_cons_succ, i64_w, i32_w]
                      rfl
                    refine pure_ (i := 8) (N := some 29) (v := ?_) (a' := ?_) #[true, true, true, true, true, true, true, false, true, false, false, false, false, false, false] rfl rfl (any_of HT_.out (by kernel_rfl)) (fun _ _ _ h => h) (Or.inl ⟨by rfl, ?_⟩) ?_ ?_
                    rotate_left
                    · intro w'
                      go_simp
                      with_reducible rfl
                    rotate_left
                    · simp only [Act.put, List.setIfInBounds_toArray, List.set_cons_zero, List.set_cons_succ, i64_w, i32_w]
                      rfl
                    refine pure_ (i := 9) (N := some 30) (v := ?_) (a' := ?_) #[true, true, true, true, true, true, true, false, true, true, false, false, false, false, false] rfl rfl (any_of HT_.out (by kernel_rfl)) (fun _ _ _ h => h) (Or.inl ⟨by rfl, ?_⟩) ?_ ?_
                    rotate_left
                    · intro w'
                      go_simp
                      with_reducible rfl
                    rotate_left
                    · simp only [Act.put, List.setIfInBounds_toArray, List.set_cons_zero, List.set_cons_succ, i64_w, i32_w]
                      rfl
                    refine pure_ (i := 10) (N := some 31) (v := ?_) (a' := ?_) #[true, true, true, true, true, true, true, false, true, true, true, false, false, false, false] rfl rfl (any_of HT_.out (by kernel_rfl)) (fun _ _ _ h => h) (Or.inl ⟨by rfl, ?_⟩) ?_ ?_
                    rotate_left
                    · intro w'
                      go_simp
                      with_reducible rfl
                    rotate_left
                    · simp only [Act.put, List.setIfInBounds_toArray, List.set_cons_zero, List.set_cons_succ, i64_w, i32_w]
                      rfl
                    refine take_ (i := 7) (N := some 28) (v := ?_) (a' := ?_) #[true, true, true, true, true, true, true, true, true, true, true, false, false, false, false] rfl rfl (take_ofW HT_.out HW_.out (by kernel_rfl)) (fun _ _ _ h => h) (Or.inl ⟨by rfl, ?_⟩) hHeld ?_ ?_
                    rotate_left
                    · rintro w' ⟨s0, s1, s2, s3, s4, s5, s6, s7, s8, s9, s10, s11⟩
                      go_simp
                      with_reducible rfl
                    rotate_left
                    · simp only [Act.put, List.setIfInBounds_toArray, List.set_cons_zero, List.set_cons_succ, i64_w, i32_w]
                      rfl
                    refine take_ (i := 11) (N := some 32) (v := ?_) (a' := ?_) #[true, true, true, true, true, true, true, true, true, true, true, true, false, false, false] rfl rfl (take_ofW HT_.out HW_.out (by kernel_rfl)) (fun _ _ _ h => h) (Or.inl ⟨by rfl, ?_⟩) hHeld ?_ ?_
                    rotate_left
                    · rintro w' ⟨s0, s1, s2, s3, s4, s5, s6, s7, s8, s9, s10, s11⟩
                      go_simp
                      with_reducible rfl
                    rotate_left
                    · simp only [Act.put, List.setIfInBounds_toArray, List.set_cons_zero, List.set_cons_succ, i64_w, i32_w]
                      rfl
                    refine one_ (i := 12) (N := some 33) #[true, true, true, true, true, true, true, true, true, true, true, true, true, false, false] rfl rfl (one_of HT_.out (by kernel_rfl)) (by decide) (fun K hK => ?_)
                    refine goes_ Try.func18 (by kernel_rfl) rfl #[.agg #[.int .i64 ((rd_T34 t311 (ji12)).f0.f0), .int .i64 ((rd_T34 t311 (ji12)).f0.f1), .int .i64 ((rd_T34 t311 (ji12)).f1), .int .i64 ((rd_T34 t311 (ji12)).f2), .int .i64 ((rd_T34 t311 (ji12)).f3), .int .i64 ((rd_T34 t311 (ji12)).f4)], .agg #[.int .i64 ((rd_T34 t311 x8_1).f0.f0), .int .i64 ((rd_T34 t311 x8_1).f0.f1), .int .i64 ((rd_T34 t311 x8_1).f1), .int .i64 ((rd_T34 t311 x8_1).f2), .int .i64 ((rd_T34 t311 x8_1).f3), .int .i64 ((rd_T34 t311 x8_1).f4)]] (by rfl) rfl rfl (by (try simp only [List.map_toArray, List.map_cons, List.map_nil]); first | done | (simp only [hji12]; rfl) | rfl | (simp only [List.length_drop, List.length_take]; rfl)) ?_
                    with_reducible refine (rank_Compare.calls ((rd_T34 t311 (ji12)).f0.f0) ((rd_T34 t311 (ji12)).f0.f1) ((rd_T34 t311 (ji12)).f1) ((rd_T34 t311 (ji12)).f2) ((rd_T34 t311 (ji12)).f3) ((rd_T34 t311 (ji12)).f4) ((rd_T34 t311 x8_1).f0.f0) ((rd_T34 t311 x8_1).f0.f1) ((rd_T34 t311 x8_1).f1) ((rd_T34 t311 x8_1).f2) ((rd_T34 t311 x8_1).f3) ((rd_T34 t311 x8_1).f4) t316 _ A16.out).mono ?_
                    rintro e w18 ⟨rfl, hb⟩
                    have HS0_ := (hb.cell (World.block_lt_of_cell? _ _ (hHeld.1))).trans (hHeld.1)
                    have HS1_ := (hb.cell (World.block_lt_of_cell? _ _ (hHeld.2.1))).trans (hHeld.2.1)
                    have HS2_ := (hb.cell (World.block_lt_of_cell? _ _ (hHeld.2.2.1))).trans (hHeld.2.2.1)
                    have HS3_ := (hb.cell (World.block_lt_of_cell? _ _ (hHeld.2.2.2.1))).trans (hHeld.2.2.2.1)
                    have HS4_ := (hb.cell (World.block_lt_of_cell? _ _ (hHeld.2.2.2.2.1))).trans (hHeld.2.2.2.2.1)
                    have HS5_ := (hb.cell (World.block_lt_of_cell? _ _ (hHeld.2.2.2.2.2.1))).trans (hHeld.2.2.2.2.2.1)
                    have HS6_ := (hb.cell (World.block_lt_of_cell? _ _ (hHeld.2.2.2.2.2.2.1))).trans (hHeld.2.2.2.2.2.2.1)
                    have HS7_ := (hb.cell (World.block_lt_of_cell? _ _ (hHeld.2.2.2.2.2.2.2.1))).trans (hHeld.2.2.2.2.2.2.2.1)
                    have HS8_ := (hb.cell (World.block_lt_of_cell? _ _ (hHeld.2.2.2.2.2.2.2.2.1))).trans (hHeld.2.2.2.2.2.2.2.2.1)
                    have HS9_ := (hb.cell (World.block_lt_of_cell? _ _ (hHeld.2.2.2.2.2.2.2.2.2.1))).trans (hHeld.2.2.2.2.2.2.2.2.2.1)
                    have HS10_ := (hb.cell (World.block_lt_of_cell? _ _ (hHeld.2.2.2.2.2.2.2.2.2.2.1))).trans (hHeld.2.2.2.2.2.2.2.2.2.2.1)
                    have HS11_ := (hb.cell (World.block_lt_of_cell? _ _ (hHeld.2.2.2.2.2.2.2.2.2.2.2))).trans (hHeld.2.2.2.2.2.2.2.2.2.2.2)
                    refine ⟨_, rfl, ?_⟩
                    have n0_ := Aside0.mk (Kd.R_below (by (with_reducible repeat (first | apply Kd.R_alloc | apply Kd.R_drewN | apply Kd.R_drew)); exact HO_5.out) hb)
                    have n1_ := Aside0.mk (blk_below (g := gb310) (o := .cells #[.int .i64 a1_0, .int .i64 a1_1, .int .i64 a1_2, .int .i64 a1_3, .int .i64 a1_4, .int .i64 a1_5] 34 (0, 0)) (by (with_reducible repeat (first | refine blk_drewN ?_ _ | refine blk_drew ?_ | refine blk_alloc ?_ _)); exact BK310.out) hb)
                    have n2_ := Aside0.mk (below_step (by repeat (first | (with_reducible first | exact HB.out | apply below_alloc | apply pw_below_drewN | apply below_drew1 | refine below_set ?_ GE310.out) | exact HB.out)) hb)
                    clear HO_5
                    clear BK310
                    clear HB
                    have HO_5 := n0_
                    have BK310 := n1_
                    have HB := n2_
                    clear n0_ n1_ n2_
                    (try clear hb)
                    (try clear hb2)
                    (try clear hk)
                    (try clear hi)
                    refine hK.out _ _ ⟨HS0_, HS1_, HS2_, HS3_, HS4_, HS5_, HS6_, HS7_, HS8_, HS9_, HS10_, HS11_⟩ (fun hHeld => ?_)
                    clear hK K
                    refine norm_ (a' := ?_) ?_ ?_
                    rotate_left
                    · show Act.put _ (some 33) _ = _
                      simp only [Act.put, List.setIfInBounds_toArray, List.set_cons_zero, List.set_cons_succ, i64_w, i32_w]
                      rfl
                    refine pure_ (i := 13) (N := some 34) (v := ?_) (a' := ?_) #[true, true, true, true, true, true, true, true, true, true, true, true, true, true, false] rfl rfl (any_of HT_.out (by kernel_rfl)) (fun _ _ _ h => h) (Or.inl ⟨by rfl, ?_⟩) ?_ ?_
                    rotate_left
                    · intro w'
                      go_simp
                      with_reducible rfl
                    rotate_left
                    · simp only [Act.put, List.setIfInBounds_toArray, List.set_cons_zero, List.set_cons_succ, i64_w, i32_w]
                      rfl
                    refine pure_ (i := 14) (N := some 35) (v := ?_) (a' := ?_) #[true, true, true, true, true, true, true, true, true, true, true, true, true, true, true] rfl rfl (any_of HT_.out (by kernel_rfl)) (fun _ _ _ h => h) (Or.inl ⟨by rfl, ?_⟩) ?_ ?_
                    rotate_left
                    · intro w'
                      go_simp
                      with_reducible rfl
                    rotate_left
                    · simp only [Act.put, List.setIfInBounds_toArray, List.set_cons_zero, List.set_cons_succ, i64_w, i32_w]
                      rfl
                    refine done_ (done_of HT_.out (by kernel_rfl)) ?_
                    try go_wp2
                    go_meet
                    case rel => exact ⟨_, (decide (t316 > 0)), (by first | rfl | (simp; done) | (simp [*]; done)), H', ⟨by have := HK1.out; first | omega | exact Nat.le_refl _⟩, ⟨by (with_reducible repeat (first | apply Kd.R_alloc | apply Kd.R_drewN | apply Kd.R_drew)); exact HO_5.out⟩, ⟨by (with_reducible repeat (first | refine blk_drewN ?_ _ | refine blk_drew ?_ | refine blk_alloc ?_ _)); exact BK310.out⟩, ⟨by repeat (first | (with_reducible first | exact HB.out | apply below_alloc | apply pw_below_drewN | apply below_drew1 | refine below_set ?_ GE310.out) | exact HB.out)⟩⟩
                  · rw [if_neg c15] at H
                    exact absurd H (by simp)
                · rw [if_neg c14] at H
                  exact absurd H (by simp)
              · rw [if_neg c13] at H
                exact absurd H (by simp)
            · rw [if_neg c11] at H
              have c11b0 : decide (0 < x8_1) = false := decide_eq_false c11
              clear c11
              (first | rw [c11b0] | (simp only [i64_w, i32_w]; rw [c11b0]) | skip)
              have H' := Aside0.mk H
              clear H
              try go_wp2
              have n0_ := Aside0.mk (Kd.R_drew HO_5.out)
              have n1_ := Aside0.mk (blk_drew BK310.out)
              have n2_ := Aside0.mk (below_drew1 HB.out)
              clear HO_5
              clear BK310
              clear HB
              have HO_5 := n0_
              have BK310 := n1_
              have HB := n2_
              clear n0_ n1_ n2_
              refine start_ (n := 15) (S := fun w' => True) (ds := []) #[false, false, false, false, false, false, false, false, false, false, false, false, false, false, false] (by kernel_rfl) rfl rfl trivial (fun hHeld => ?_); refine with_tabW watchmanlaw07_RankSorts.tab9 watchmanlaw07_RankSorts.bits9 (fun HT_ HW_ => ?_)
              generalize wr.drew = w19 at HO_5 BK310 HB hHeld ⊢
              refine pure_ (i := 0) (N := some 21) (v := ?_) (a' := ?_) #[true, false, false, false, false, false, false, false, false, false, false, false, false, false, false] rfl rfl (any_of HT_.out (by kernel_rfl)) (fun _ _ _ h => h) (Or.inl ⟨by rfl, ?_⟩) ?_ ?_
              rotate_left
              · intro w'
                go_simp
                with_reducible rfl
              rotate_left
              · simp only [Act.put, List.setIfInBounds_toArray, List.set_cons_zero, List.set_cons_succ, i64_w, i32_w]
                rfl
              refine pure_ (i := 1) (N := some 22) (v := ?_) (a' := ?_) #[true, true, false, false, false, false, false, false, false, false, false, false, false, false, false] rfl rfl (any_of HT_.out (by kernel_rfl)) (fun _ _ _ h => h) (Or.inl ⟨by rfl, ?_⟩) ?_ ?_
              rotate_left
              · intro w'
                go_simp
                with_reducible rfl
              rotate_left
              · simp only [Act.put, List.setIfInBounds_toArray, List.set_cons_zero, List.set_cons_succ, i64_w, i32_w]
                rfl
              refine pure_ (i := 2) (N := some 23) (v := ?_) (a' := ?_) #[true, true, true, false, false, false, false, false, false, false, false, false, false, false, false] rfl rfl (any_of HT_.out (by kernel_rfl)) (fun _ _ _ h => h) (Or.inl ⟨by rfl, ?_⟩) ?_ ?_
              rotate_left
              · intro w'
                go_simp
                with_reducible rfl
              rotate_left
              · simp only [Act.put, List.setIfInBounds_toArray, List.set_cons_zero, List.set_cons_succ, i64_w, i32_w]
                rfl
              refine pure_ (i := 3) (N := some 24) (v := undef) (a' := ?_) #[true, true, true, true, false, false, false, false, false, false, false, false, false, false, false] rfl rfl (any_of HT_.out (by kernel_rfl)) (fun _ _ _ h => h) (Or.inr ⟨by rfl, rfl⟩) ?_ ?_
              rotate_left
              · simp only [Act.put, List.setIfInBounds_toArray, List.set_cons_zero, List.set_cons_succ, i64_w, i32_w]
                rfl
              refine pure_ (i := 4) (N := some 25) (v := undef) (a' := ?_) #[true, true, true, true, true, false, false, false, false, false, false, false, false, false, false] rfl rfl (any_of HT_.out (by kernel_rfl)) (fun _ _ _ h => h) (Or.inr ⟨by rfl, rfl⟩) ?_ ?_
              rotate_left
              · simp only [Act.put, List.setIfInBounds_toArray, List.set_cons_zero, List.set_cons_succ, i64_w, i32_w]
                rfl
              refine pure_ (i := 5) (N := some 26) (v := undef) (a' := ?_) #[true, true, true, true, true, true, false, false, false, false, false, false, false, false, false] rfl rfl (any_of HT_.out (by kernel_rfl)) (fun _ _ _ h => h) (Or.inr ⟨by rfl, rfl⟩) ?_ ?_
              rotate_left
              · simp only [Act.put, List.setIfInBounds_toArray, List.set_cons_zero, List.set_cons_succ, i64_w, i32_w]
                rfl
              refine pure_ (i := 6) (N := some 27) (v := undef) (a' := ?_) #[true, true, true, true, true, true, true, false, false, false, false, false, false, false, false] rfl rfl (any_of HT_.out (by kernel_rfl)) (fun _ _ _ h => h) (Or.inr ⟨by rfl, rfl⟩) ?_ ?_
              rotate_left
              · simp only [Act.put, List.setIfInBounds_toArray, List.set_cons_zero, List.set_cons_succ, i64_w, i32_w]
                rfl
              refine pure_ (i := 7) (N := some 28) (v := undef) (a' := ?_) #[true, true, true, true, true, true, true, true, false, false, false, false, false, false, false] rfl rfl (any_of HT_.out (by kernel_rfl)) (fun _ _ _ h => h) (Or.inr ⟨by rfl, rfl⟩) ?_ ?_
              rotate_left
              · simp only [Act.put, List.setIfInBounds_toArray, List.set_cons_zero, List.set_cons_succ, i64_w, i32_w]
                rfl
              refine pure_ (i := 8) (N := some 29) (v := undef) (a' := ?_) #[true, true, true, true, true, true, true, true, true, false, false, false, false, false, false] rfl rfl (any_of HT_.out (by kernel_rfl)) (fun _ _ _ h => h) (Or.inr ⟨by rfl, rfl⟩) ?_ ?_
              rotate_left
              · simp only [Act.put, List.setIfInBounds_toArray, List.set_cons_zero, List.set_cons_succ, i64_w, i32_w]
                rfl
              refine pure_ (i := 9) (N := some 30) (v := undef) (a' := ?_) #[true, true, true, true, true, true, true, true, true, true, false, false, false, false, false] rfl rfl (any_of HT_.out (by kernel_rfl)) (fun _ _ _ h => h) (Or.inr ⟨by rfl, rfl⟩) ?_ ?_
              rotate_left
              · simp only [Act.put, List.setIfInBounds_toArray, List.set_cons_zero, List.set_cons_succ, i64_w, i32_w]
                rfl
              refine pure_ (i := 10) (N := some 31) (v := undef) (a' := ?_) #[true, true, true, true, true, true, true, true, true, true, true, false, false, false, false] rfl rfl (any_of HT_.out (by kernel_rfl)) (fun _ _ _ h => h) (Or.inr ⟨by rfl, rfl⟩) ?_ ?_
              rotate_left
              · simp only [Act.put, List.setIfInBounds_toArray, List.set_cons_zero, List.set_cons_succ, i64_w, i32_w]
                rfl
              refine pure_ (i := 11) (N := some 32) (v := undef) (a' := ?_) #[true, true, true, true, true, true, true, true, true, true, true, true, false, false, false] rfl rfl (any_of HT_.out (by kernel_rfl)) (fun _ _ _ h => h) (Or.inr ⟨by rfl, rfl⟩) ?_ ?_
              rotate_left
              · simp only [Act.put, List.setIfInBounds_toArray, List.set_cons_zero, List.set_cons_succ, i64_w, i32_w]
                rfl
              refine pure_ (i := 12) (N := some 33) (v := undef) (a' := ?_) #[true, true, true, true, true, true, true, true, true, true, true, true, true, false, false] rfl rfl (any_of HT_.out (by kernel_rfl)) (fun _ _ _ h => h) (Or.inr ⟨by rfl, rfl⟩) ?_ ?_
              rotate_left
              · simp only [Act.put, List.setIfInBounds_toArray, List.set_cons_zero, List.set_cons_succ, i64_w, i32_w]
                rfl
              refine pure_ (i := 13) (N := some 34) (v := undef) (a' := ?_) #[true, true, true, true, true, true, true, true, true, true, true, true, true, true, false] rfl rfl (any_of HT_.out (by kernel_rfl)) (fun _ _ _ h => h) (Or.inr ⟨by rfl, rfl⟩) ?_ ?_
              rotate_left
              · simp only [Act.put, List.setIfInBounds_toArray, List.set_cons_zero, List.set_cons_succ, i64_w, i32_w]
                rfl
              refine pure_ (i := 14) (N := some 35) (v := ?_) (a' := ?_) #[true, true, true, true, true, true, true, true, true, true, true, true, true, true, true] rfl rfl (any_of HT_.out (by kernel_rfl)) (fun _ _ _ h => h) (Or.inl ⟨by rfl, ?_⟩) ?_ ?_
              rotate_left
              · intro w'
                go_simp
                with_reducible rfl
              rotate_left
              · simp only [Act.put, List.setIfInBounds_toArray, List.set_cons_zero, List.set_cons_succ, i64_w, i32_w]
                rfl
              refine done_ (done_of HT_.out (by kernel_rfl)) ?_
              try go_wp2
              go_meet
              case rel => exact ⟨_, (false), (by first | rfl | (simp; done) | (simp [*]; done)), H', ⟨by have := HK1.out; first | omega | exact Nat.le_refl _⟩, ⟨by (with_reducible repeat (first | apply Kd.R_alloc | apply Kd.R_drewN | apply Kd.R_drew)); exact HO_5.out⟩, ⟨by (with_reducible repeat (first | refine blk_drewN ?_ _ | refine blk_drew ?_ | refine blk_alloc ?_ _)); exact BK310.out⟩, ⟨by repeat (first | (with_reducible first | exact HB.out | apply below_alloc | apply pw_below_drewN | apply below_drew1 | refine below_set ?_ GE310.out) | exact HB.out)⟩⟩
          case rest =>
            clear HC9
            try clear c1
            try clear p2
            try clear c3
            try clear c3b0
            try clear c3b1
            try clear p3
            try clear q3
            try clear hx3
            try clear c5
            try clear p6
            try clear c8
            try clear c8b0
            try clear c9
            try clear c11
            try clear c11b0
            try clear c13
            try clear c13b0
            try clear c14
            try clear c14b0
            try clear c15
            try clear c15b0
            try clear c18
            try clear hx314_0
            try clear hx314_1
            try clear hx314_2
            try clear hx314_3
            try clear hx314_4
            try clear hx314_5
            try clear hx315_0
            try clear hx315_1
            try clear hx315_2
            try clear hx315_3
            try clear hx315_4
            try clear hx315_5
            try clear p2
            try clear p314
            try clear p315
            try clear q314
            try clear q315
            obtain ⟨kq, x35_8, rfl, HA, HJ8, HO_5, BK310, HB⟩ := hcut
            cases kq with
            | zero => exact absurd HA.out (by simp [watchmanlaw07_RankSorts.j1])
            | succ kj8 =>
              have H := HA.out
              clear HA
              simp only [watchmanlaw07_RankSorts.j1] at H
              by_cases c20 : x35_8 = true
              · subst c20
                have H1 : (none) = some r := by rw [if_pos rfl] at H; exact H
                clear H
                have H := H1
                clear H1
                exact absurd H (by simp)
              · replace c20 := Bool.eq_false_iff.mpr c20
                subst c20
                have H1 : (if 0 ≤ x8_1 then (if x8_1 < (t311.length : Int) then (if ((((rd_T34 t311 x8_1).f0.f0) == a1_0 && (((rd_T34 t311 x8_1).f0.f1) == a1_1)) && (((rd_T34 t311 x8_1).f1) == a1_2 && (((rd_T34 t311 x8_1).f2) == a1_3 && (((rd_T34 t311 x8_1).f3) == a1_4 && (((rd_T34 t311 x8_1).f4) == a1_5))))) = true then (watchmanlaw07_RankSorts.l0 kj8 l0 t311 (wrap64 (x6_1 + 1)) 0 (wrap64 (x8_1 + 1)) a1_0 a1_1 a1_2 a1_3 a1_4 a1_5) else (watchmanlaw07_RankSorts.l0 kj8 l0 t311 x6_1 0 (wrap64 (x8_1 + 1)) a1_0 a1_1 a1_2 a1_3 a1_4 a1_5)) else (none)) else (none)) = some r := by rw [if_neg (show ¬ (false = true) by decide)] at H; exact H
                clear H
                have H := H1
                clear H1
                by_cases c21 : 0 ≤ x8_1
                · rw [if_pos c21] at H
                  have c21b0 : decide (0 ≤ x8_1) = true := decide_eq_true c21
                  clear c21
                  by_cases c22 : x8_1 < (t311.length : Int)
                  · rw [if_pos c22] at H
                    have c22b0 : decide (x8_1 < (t311.length : Int)) = true := decide_eq_true c22
                    clear c22
                    by_cases c23 : ((((rd_T34 t311 x8_1).f0.f0) == a1_0 && (((rd_T34 t311 x8_1).f0.f1) == a1_1)) && (((rd_T34 t311 x8_1).f1) == a1_2 && (((rd_T34 t311 x8_1).f2) == a1_3 && (((rd_T34 t311 x8_1).f3) == a1_4 && (((rd_T34 t311 x8_1).f4) == a1_5))))) = true
                    · rw [if_pos c23] at H
                      have c23b0 : ((((rd_T34 t311 x8_1).f0.f0) == a1_0 && (((rd_T34 t311 x8_1).f0.f1) == a1_1)) && (((rd_T34 t311 x8_1).f1) == a1_2 && (((rd_T34 t311 x8_1).f2) == a1_3 && (((rd_T34 t311 x8_1).f3) == a1_4 && (((rd_T34 t311 x8_1).f4) == a1_5))))) = true := c23
                      clear c23
                      have H' := Aside0.mk H
                      clear H
                      try go_wp2
                      have n0_ := Aside0.mk (Kd.R_drew HO_5.out)
                      have n1_ := Aside0.mk (blk_drew BK310.out)
                      have n2_ := Aside0.mk (below_drew1 HB.out)
                      clear HO_5
                      clear BK310
                      clear HB
                      have HO_5 := n0_
                      have BK310 := n1_
                      have HB := n2_
                      clear n0_ n1_ n2_
                      have p317 : 0 ≤ (x8_1 : Int) := of_decide_eq_true (by first | (with_reducible assumption) | assumption)
                      have q317 : x8_1 < (t311.length : Int) := of_decide_eq_true (by first | (with_reducible assumption) | assumption)
                      obtain ⟨ad317, e317, hx317_0, hx317_1, hx317_2, hx317_3, hx317_4, hx317_5⟩ := at_T34 (Kd.R_reads' HO_5.out).2.2 x8_1 p317 q317
                      cases e317
                      replace p317 := eq_true p317
                      replace q317 := eq_true q317
                      refine start_ (n := 6) (S := fun w' => w'.cell? ⟨gb310, 0, none⟩ = some (.int .i64 a1_0) ∧ w'.cell? ⟨gb310, 1, none⟩ = some (.int .i64 a1_1) ∧ w'.cell? ⟨gb310, 2, none⟩ = some (.int .i64 a1_2) ∧ w'.cell? ⟨gb310, 3, none⟩ = some (.int .i64 a1_3) ∧ w'.cell? ⟨gb310, 4, none⟩ = some (.int .i64 a1_4) ∧ w'.cell? ⟨gb310, 5, none⟩ = some (.int .i64 a1_5) ∧ w'.cell? (ad317.add ((x8_1).toNat * 6)) = some (.int .i64 ((rd_T34 t311 x8_1).f0.f0)) ∧ w'.cell? ⟨(ad317.add ((x8_1).toNat * 6)).block, (ad317.add ((x8_1).toNat * 6)).off + 1, none⟩ = some (.int .i64 ((rd_T34 t311 x8_1).f0.f1)) ∧ w'.cell? ⟨(ad317.add ((x8_1).toNat * 6)).block, (ad317.add ((x8_1).toNat * 6)).off + 2, none⟩ = some (.int .i64 ((rd_T34 t311 x8_1).f1)) ∧ w'.cell? ⟨(ad317.add ((x8_1).toNat * 6)).block, (ad317.add ((x8_1).toNat * 6)).off + 3, none⟩ = some (.int .i64 ((rd_T34 t311 x8_1).f2)) ∧ w'.cell? ⟨(ad317.add ((x8_1).toNat * 6)).block, (ad317.add ((x8_1).toNat * 6)).off + 4, none⟩ = some (.int .i64 ((rd_T34 t311 x8_1).f3)) ∧ w'.cell? ⟨(ad317.add ((x8_1).toNat * 6)).block, (ad317.add ((x8_1).toNat * 6)).off + 5, none⟩ = some (.int .i64 ((rd_T34 t311 x8_1).f4))) (ds := []) #[false, false, false, false, false, false] (by kernel_rfl) rfl rfl ⟨(blk_cell BK310.out 0).trans rfl, (blk_cell BK310.out 1).trans rfl, (blk_cell BK310.out 2).trans rfl, (blk_cell BK310.out 3).trans rfl, (blk_cell BK310.out 4).trans rfl, (blk_cell BK310.out 5).trans rfl, hx317_0, hx317_1, hx317_2, hx317_3, hx317_4, hx317_5⟩ (fun hHeld => ?_)
                      generalize wc.drew = w24 at HO_5 BK310 HB hx317_0 hx317_1 hx317_2 hx317_3 hx317_4 hx317_5 hHeld ⊢
                      refine pure_ (i := 0) (N := some 36) (v := ?_) (a' := ?_) #[true, false, false, false, false, false] rfl rfl (by kernel_rfl) (fun _ _ _ h => h) (Or.inl ⟨by rfl, ?_⟩) ?_ ?_
                      rotate_left
                      · intro w'
                        go_simp
                        with_reducible rfl
                      rotate_left
                      · simp only [Act.put, List.setIfInBounds_toArray, List.set_cons_zero, List.set_cons_succ, i64_w, i32_w]
                        rfl
                      refine pure_ (i := 1) (N := some 37) (v := ?_) (a' := ?_) #[true, true, false, false, false, false] rfl rfl (by kernel_rfl) (fun _ _ _ h => h) (Or.inl ⟨by rfl, ?_⟩) ?_ ?_
                      rotate_left
                      · intro w'
                        go_simp
                        with_reducible rfl
                      rotate_left
                      · simp only [Act.put, List.setIfInBounds_toArray, List.set_cons_zero, List.set_cons_succ, i64_w, i32_w]
                        rfl
                      refine pure_ (i := 2) (N := some 38) (v := ?_) (a' := ?_) #[true, true, true, false, false, false] rfl rfl (by kernel_rfl) (fun _ _ _ h => h) (Or.inl ⟨by rfl, ?_⟩) ?_ ?_
                      rotate_left
                      · intro w'
                        go_simp
                        with_reducible rfl
                      rotate_left
                      · simp only [Act.put, List.setIfInBounds_toArray, List.set_cons_zero, List.set_cons_succ, i64_w, i32_w]
                        rfl
                      refine take_ (i := 3) (N := some 39) (v := ?_) (a' := ?_) #[true, true, true, true, false, false] rfl rfl (by kernel_rfl) (fun _ _ _ h => h) (Or.inl ⟨by rfl, ?_⟩) hHeld ?_ ?_
                      rotate_left
                      · rintro w' ⟨s0, s1, s2, s3, s4, s5, s6, s7, s8, s9, s10, s11⟩
                        go_simp
                        with_reducible rfl
                      rotate_left
                      · simp only [Act.put, List.setIfInBounds_toArray, List.set_cons_zero, List.set_cons_succ, i64_w, i32_w]
                        rfl
                      refine take_ (i := 4) (N := some 40) (v := ?_) (a' := ?_) #[true, true, true, true, true, false] rfl rfl (by kernel_rfl) (fun _ _ _ h => h) (Or.inl ⟨by rfl, ?_⟩) hHeld ?_ ?_
                      rotate_left
                      · rintro w' ⟨s0, s1, s2, s3, s4, s5, s6, s7, s8, s9, s10, s11⟩
                        go_simp
                        with_reducible rfl
                      rotate_left
                      · simp only [Act.put, List.setIfInBounds_toArray, List.set_cons_zero, List.set_cons_succ, i64_w, i32_w]
                        rfl
                      refine pure_ (i := 5) (N := some 41) (v := ?_) (a' := ?_) #[true, true, true, true, true, true] rfl rfl (by kernel_rfl) (fun _ _ _ h => h) (Or.inl ⟨by rfl, ?_⟩) ?_ ?_
                      rotate_left
                      · intro w'
                        go_simp
                        with_reducible rfl
                      rotate_left
                      · simp only [Act.put, List.setIfInBounds_toArray, List.set_cons_zero, List.set_cons_succ, i64_w, i32_w]
                        rfl
                      refine done_ (by kernel_rfl) ?_
                      try go_wp2
                      go_roundg kj8
                      case measure => have := HK1.out; have := HJ8.out; omega
                      case rel => exact ⟨(wrap64 (x6_1 + 1)), (wrap64 (x8_1 + 1)), (by first | rfl | (simp; done) | (simp [*]; done)), (by first | rfl | (simp; done) | (simp [*]; done)), H', ⟨by have := HK1.out; have := HJ8.out; omega⟩, ⟨by (with_reducible repeat (first | apply Kd.R_alloc | apply Kd.R_drewN | apply Kd.R_drew)); exact HO_5.out⟩, ⟨by (with_reducible repeat (first | refine blk_drewN ?_ _ | refine blk_drew ?_ | refine blk_alloc ?_ _)); exact BK310.out⟩, ⟨by repeat (first | (with_reducible first | exact HB.out | apply below_alloc | apply pw_below_drewN | apply below_drew1 | refine below_set ?_ GE310.out) | exact HB.out)⟩⟩
                    · rw [if_neg c23] at H
                      have c23b0 : ((((rd_T34 t311 x8_1).f0.f0) == a1_0 && (((rd_T34 t311 x8_1).f0.f1) == a1_1)) && (((rd_T34 t311 x8_1).f1) == a1_2 && (((rd_T34 t311 x8_1).f2) == a1_3 && (((rd_T34 t311 x8_1).f3) == a1_4 && (((rd_T34 t311 x8_1).f4) == a1_5))))) = false := by simpa using c23
                      clear c23
                      have H' := Aside0.mk H
                      clear H
                      try go_wp2
                      have n0_ := Aside0.mk (Kd.R_drew HO_5.out)
                      have n1_ := Aside0.mk (blk_drew BK310.out)
                      have n2_ := Aside0.mk (below_drew1 HB.out)
                      clear HO_5
                      clear BK310
                      clear HB
                      have HO_5 := n0_
                      have BK310 := n1_
                      have HB := n2_
                      clear n0_ n1_ n2_
                      have p317 : 0 ≤ (x8_1 : Int) := of_decide_eq_true (by first | (with_reducible assumption) | assumption)
                      have q317 : x8_1 < (t311.length : Int) := of_decide_eq_true (by first | (with_reducible assumption) | assumption)
                      obtain ⟨ad317, e317, hx317_0, hx317_1, hx317_2, hx317_3, hx317_4, hx317_5⟩ := at_T34 (Kd.R_reads' HO_5.out).2.2 x8_1 p317 q317
                      cases e317
                      replace p317 := eq_true p317
                      replace q317 := eq_true q317
                      refine start_ (n := 6) (S := fun w' => w'.cell? ⟨gb310, 0, none⟩ = some (.int .i64 a1_0) ∧ w'.cell? ⟨gb310, 1, none⟩ = some (.int .i64 a1_1) ∧ w'.cell? ⟨gb310, 2, none⟩ = some (.int .i64 a1_2) ∧ w'.cell? ⟨gb310, 3, none⟩ = some (.int .i64 a1_3) ∧ w'.cell? ⟨gb310, 4, none⟩ = some (.int .i64 a1_4) ∧ w'.cell? ⟨gb310, 5, none⟩ = some (.int .i64 a1_5) ∧ w'.cell? (ad317.add ((x8_1).toNat * 6)) = some (.int .i64 ((rd_T34 t311 x8_1).f0.f0)) ∧ w'.cell? ⟨(ad317.add ((x8_1).toNat * 6)).block, (ad317.add ((x8_1).toNat * 6)).off + 1, none⟩ = some (.int .i64 ((rd_T34 t311 x8_1).f0.f1)) ∧ w'.cell? ⟨(ad317.add ((x8_1).toNat * 6)).block, (ad317.add ((x8_1).toNat * 6)).off + 2, none⟩ = some (.int .i64 ((rd_T34 t311 x8_1).f1)) ∧ w'.cell? ⟨(ad317.add ((x8_1).toNat * 6)).block, (ad317.add ((x8_1).toNat * 6)).off + 3, none⟩ = some (.int .i64 ((rd_T34 t311 x8_1).f2)) ∧ w'.cell? ⟨(ad317.add ((x8_1).toNat * 6)).block, (ad317.add ((x8_1).toNat * 6)).off + 4, none⟩ = some (.int .i64 ((rd_T34 t311 x8_1).f3)) ∧ w'.cell? ⟨(ad317.add ((x8_1).toNat * 6)).block, (ad317.add ((x8_1).toNat * 6)).off + 5, none⟩ = some (.int .i64 ((rd_T34 t311 x8_1).f4))) (ds := []) #[false, false, false, false, false, false] (by kernel_rfl) rfl rfl ⟨(blk_cell BK310.out 0).trans rfl, (blk_cell BK310.out 1).trans rfl, (blk_cell BK310.out 2).trans rfl, (blk_cell BK310.out 3).trans rfl, (blk_cell BK310.out 4).trans rfl, (blk_cell BK310.out 5).trans rfl, hx317_0, hx317_1, hx317_2, hx317_3, hx317_4, hx317_5⟩ (fun hHeld => ?_)
                      generalize wc.drew = w25 at HO_5 BK310 HB hx317_0 hx317_1 hx317_2 hx317_3 hx317_4 hx317_5 hHeld ⊢
                      refine pure_ (i := 0) (N := some 36) (v := ?_) (a' := ?_) #[true, false, false, false, false, false] rfl rfl (by kernel_rfl) (fun _ _ _ h => h) (Or.inl ⟨by rfl, ?_⟩) ?_ ?_
                      rotate_left
                      · intro w'
                        go_simp
                        with_reducible rfl
                      rotate_left
                      · simp only [Act.put, List.setIfInBounds_toArray, List.set_cons_zero, List.set_cons_succ, i64_w, i32_w]
                        rfl
                      refine pure_ (i := 1) (N := some 37) (v := ?_) (a' := ?_) #[true, true, false, false, false, false] rfl rfl (by kernel_rfl) (fun _ _ _ h => h) (Or.inl ⟨by rfl, ?_⟩) ?_ ?_
                      rotate_left
                      · intro w'
                        go_simp
                        with_reducible rfl
                      rotate_left
                      · simp only [Act.put, List.setIfInBounds_toArray, List.set_cons_zero, List.set_cons_succ, i64_w, i32_w]
                        rfl
                      refine pure_ (i := 2) (N := some 38) (v := ?_) (a' := ?_) #[true, true, true, false, false, false] rfl rfl (by kernel_rfl) (fun _ _ _ h => h) (Or.inl ⟨by rfl, ?_⟩) ?_ ?_
                      rotate_left
                      · intro w'
                        go_simp
                        with_reducible rfl
                      rotate_left
                      · simp only [Act.put, List.setIfInBounds_toArray, List.set_cons_zero, List.set_cons_succ, i64_w, i32_w]
                        rfl
                      refine take_ (i := 3) (N := some 39) (v := ?_) (a' := ?_) #[true, true, true, true, false, false] rfl rfl (by kernel_rfl) (fun _ _ _ h => h) (Or.inl ⟨by rfl, ?_⟩) hHeld ?_ ?_
                      rotate_left
                      · rintro w' ⟨s0, s1, s2, s3, s4, s5, s6, s7, s8, s9, s10, s11⟩
                        go_simp
                        with_reducible rfl
                      rotate_left
                      · simp only [Act.put, List.setIfInBounds_toArray, List.set_cons_zero, List.set_cons_succ, i64_w, i32_w]
                        rfl
                      refine take_ (i := 4) (N := some 40) (v := ?_) (a' := ?_) #[true, true, true, true, true, false] rfl rfl (by kernel_rfl) (fun _ _ _ h => h) (Or.inl ⟨by rfl, ?_⟩) hHeld ?_ ?_
                      rotate_left
                      · rintro w' ⟨s0, s1, s2, s3, s4, s5, s6, s7, s8, s9, s10, s11⟩
                        go_simp
                        with_reducible rfl
                      rotate_left
                      · simp only [Act.put, List.setIfInBounds_toArray, List.set_cons_zero, List.set_cons_succ, i64_w, i32_w]
                        rfl
                      refine pure_ (i := 5) (N := some 41) (v := ?_) (a' := ?_) #[true, true, true, true, true, true] rfl rfl (by kernel_rfl) (fun _ _ _ h => h) (Or.inl ⟨by rfl, ?_⟩) ?_ ?_
                      rotate_left
                      · intro w'
                        go_simp
                        with_reducible rfl
                      rotate_left
                      · simp only [Act.put, List.setIfInBounds_toArray, List.set_cons_zero, List.set_cons_succ, i64_w, i32_w]
                        rfl
                      refine done_ (by kernel_rfl) ?_
                      try go_wp2
                      go_roundg kj8
                      case measure => have := HK1.out; have := HJ8.out; omega
                      case rel => exact ⟨(x6_1), (wrap64 (x8_1 + 1)), (by first | rfl | (simp; done) | (simp [*]; done)), (by first | rfl | (simp; done) | (simp [*]; done)), H', ⟨by have := HK1.out; have := HJ8.out; omega⟩, ⟨by (with_reducible repeat (first | apply Kd.R_alloc | apply Kd.R_drewN | apply Kd.R_drew)); exact HO_5.out⟩, ⟨by (with_reducible repeat (first | refine blk_drewN ?_ _ | refine blk_drew ?_ | refine blk_alloc ?_ _)); exact BK310.out⟩, ⟨by repeat (first | (with_reducible first | exact HB.out | apply below_alloc | apply pw_below_drewN | apply below_drew1 | refine below_set ?_ GE310.out) | exact HB.out)⟩⟩
                  · rw [if_neg c22] at H
                    exact absurd H (by simp)
                · rw [if_neg c21] at H
                  exact absurd H (by simp)
        · rw [if_neg c8] at H
          have c8b0 : decide (x8_1 < (t311.length : Int)) = false := decide_eq_false c8
          clear c8
          have H' := Aside0.mk H
          clear H
          obtain ⟨Ao26, co26, eo26⟩ := Kd.R_slice HO_5.out
          subst eo26
          go_wp2
          go_loopg [7, 9] k1 (fun kq v7 v9 w' => ∃ (x7_2 : Int) (x9_2 : Int), v7 = .int .i64 x7_2 ∧ v9 = .int .i64 x9_2 ∧ Aside0 (watchmanlaw07_RankSorts.l1 kq l0 t311 x6_1 x7_2 x9_2 a1_0 a1_1 a1_2 a1_3 a1_4 a1_5 = some r) ∧ Aside0 (kq ≤ k1) ∧ Aside0 (Kd.R k34 34 w' w.heap.size (fun k_ => k_ ≠ gb310) (.slice Ao26 t311.length co26) t311) ∧ Aside0 (w'.heap[gb310]? = some (.cells #[.int .i64 a1_0, .int .i64 a1_1, .int .i64 a1_2, .int .i64 a1_3, .int .i64 a1_4, .int .i64 a1_5] 34 (0, 0))) ∧ Aside0 (Below w.heap.size w w'))
          case atStart => exact ⟨(0), (0), (by first | rfl | (simp; done) | (simp [*]; done)), (by first | rfl | (simp; done) | (simp [*]; done)), H', ⟨Nat.le_refl _⟩, ⟨by (with_reducible repeat (first | apply Kd.R_alloc | apply Kd.R_drewN | apply Kd.R_drew)); exact HO_5.out⟩, ⟨by (with_reducible repeat (first | refine blk_drewN ?_ _ | refine blk_drew ?_ | refine blk_alloc ?_ _)); exact BK310.out⟩, ⟨by repeat (first | (with_reducible first | exact HB.out | apply below_alloc | apply pw_below_drewN | apply below_drew1 | refine below_set ?_ GE310.out) | exact HB.out)⟩⟩
          case round =>
            clear H'
            try clear c1
            try clear c2
            try clear p2
            try clear c3
            try clear c3b0
            try clear c3b1
            try clear p3
            try clear q3
            try clear hx3
            try clear c5
            try clear p6
            try clear c8
            try clear c8b0
            try clear c9
            try clear c11
            try clear c11b0
            try clear c13
            try clear c13b0
            try clear c14
            try clear c14b0
            try clear c15
            try clear c15b0
            try clear c18
            try clear c20
            try clear c21
            try clear c21b0
            try clear c22
            try clear c22b0
            try clear c23
            try clear c23b0
            try clear hx314_0
            try clear hx314_1
            try clear hx314_2
            try clear hx314_3
            try clear hx314_4
            try clear hx314_5
            try clear hx315_0
            try clear hx315_1
            try clear hx315_2
            try clear hx315_3
            try clear hx315_4
            try clear hx315_5
            try clear hx317_0
            try clear hx317_1
            try clear hx317_2
            try clear hx317_3
            try clear hx317_4
            try clear hx317_5
            try clear p2
            try clear p3
            try clear p314
            try clear p315
            try clear p317
            try clear p6
            try clear q3
            try clear q314
            try clear q315
            try clear q317
            obtain ⟨x7_2, x9_2, rfl, rfl, HA, HK2, HO_5, BK310, HB⟩ := hrel
            cases gk with
            | zero => exact absurd HA.out (by simp [watchmanlaw07_RankSorts.l1])
            | succ k2 =>
              have H := HA.out
              clear HA
              simp only [watchmanlaw07_RankSorts.l1] at H
              by_cases c27 : x9_2 < (l0.length : Int)
              · rw [if_pos c27] at H
                have c27b0 : decide (x9_2 < (l0.length : Int)) = true := decide_eq_true c27
                clear c27
                by_cases c28 : 0 ≤ x9_2
                · rw [if_pos c28] at H
                  have c28b0 : decide (0 ≤ x9_2) = true := decide_eq_true c28
                  clear c28
                  by_cases c29 : ((((rd_T34 l0 x9_2).f0.f0) == a1_0 && (((rd_T34 l0 x9_2).f0.f1) == a1_1)) && (((rd_T34 l0 x9_2).f1) == a1_2 && (((rd_T34 l0 x9_2).f2) == a1_3 && (((rd_T34 l0 x9_2).f3) == a1_4 && (((rd_T34 l0 x9_2).f4) == a1_5))))) = true
                  · rw [if_pos c29] at H
                    have c29b0 : ((((rd_T34 l0 x9_2).f0.f0) == a1_0 && (((rd_T34 l0 x9_2).f0.f1) == a1_1)) && (((rd_T34 l0 x9_2).f1) == a1_2 && (((rd_T34 l0 x9_2).f2) == a1_3 && (((rd_T34 l0 x9_2).f3) == a1_4 && (((rd_T34 l0 x9_2).f4) == a1_5))))) = true := c29
                    clear c29
                    have H' := Aside0.mk H
                    clear H
                    try go_wp2
                    have n0_ := Aside0.mk (Kd.R_drew HO_5.out)
                    have n1_ := Aside0.mk (blk_drew BK310.out)
                    have n2_ := Aside0.mk (below_drew1 HB.out)
                    clear HO_5
                    clear BK310
                    clear HB
                    have HO_5 := n0_
                    have BK310 := n1_
                    have HB := n2_
                    clear n0_ n1_ n2_
                    have p318 : 0 ≤ (x9_2 : Int) := of_decide_eq_true (by first | (with_reducible assumption) | assumption)
                    have q318 : x9_2 < (l0.length : Int) := of_decide_eq_true (by first | (with_reducible assumption) | assumption)
                    obtain ⟨ad318, e318, hx318_0, hx318_1, hx318_2, hx318_3, hx318_4, hx318_5⟩ := at_T34 HR0.out x9_2 p318 q318
                    have hw318_5 := hx318_5
                    have hw318_4 := hx318_4
                    have hw318_3 := hx318_3
                    have hw318_2 := hx318_2
                    have hw318_1 := hx318_1
                    have hw318_0 := hx318_0
                    cases e318
                    replace hx318_0 := (HB.out.cell (World.block_lt_of_cell? w _ hx318_0)).trans hx318_0
                    replace hx318_1 := (HB.out.cell (World.block_lt_of_cell? w _ hx318_1)).trans hx318_1
                    replace hx318_2 := (HB.out.cell (World.block_lt_of_cell? w _ hx318_2)).trans hx318_2
                    replace hx318_3 := (HB.out.cell (World.block_lt_of_cell? w _ hx318_3)).trans hx318_3
                    replace hx318_4 := (HB.out.cell (World.block_lt_of_cell? w _ hx318_4)).trans hx318_4
                    replace hx318_5 := (HB.out.cell (World.block_lt_of_cell? w _ hx318_5)).trans hx318_5
                    replace p318 := eq_true p318
                    replace q318 := eq_true q318
                    refine start_ (n := 6) (S := fun w' => w'.cell? ⟨gb310, 0, none⟩ = some (.int .i64 a1_0) ∧ w'.cell? ⟨gb310, 1, none⟩ = some (.int .i64 a1_1) ∧ w'.cell? ⟨gb310, 2, none⟩ = some (.int .i64 a1_2) ∧ w'.cell? ⟨gb310, 3, none⟩ = some (.int .i64 a1_3) ∧ w'.cell? ⟨gb310, 4, none⟩ = some (.int .i64 a1_4) ∧ w'.cell? ⟨gb310, 5, none⟩ = some (.int .i64 a1_5) ∧ w'.cell? (ad318.add ((x9_2).toNat * 6)) = some (.int .i64 ((rd_T34 l0 x9_2).f0.f0)) ∧ w'.cell? ⟨(ad318.add ((x9_2).toNat * 6)).block, (ad318.add ((x9_2).toNat * 6)).off + 1, none⟩ = some (.int .i64 ((rd_T34 l0 x9_2).f0.f1)) ∧ w'.cell? ⟨(ad318.add ((x9_2).toNat * 6)).block, (ad318.add ((x9_2).toNat * 6)).off + 2, none⟩ = some (.int .i64 ((rd_T34 l0 x9_2).f1)) ∧ w'.cell? ⟨(ad318.add ((x9_2).toNat * 6)).block, (ad318.add ((x9_2).toNat * 6)).off + 3, none⟩ = some (.int .i64 ((rd_T34 l0 x9_2).f2)) ∧ w'.cell? ⟨(ad318.add ((x9_2).toNat * 6)).block, (ad318.add ((x9_2).toNat * 6)).off + 4, none⟩ = some (.int .i64 ((rd_T34 l0 x9_2).f3)) ∧ w'.cell? ⟨(ad318.add ((x9_2).toNat * 6)).block, (ad318.add ((x9_2).toNat * 6)).off + 5, none⟩ = some (.int .i64 ((rd_T34 l0 x9_2).f4))) (ds := []) #[false, false, false, false, false, false] (by kernel_rfl) rfl rfl ⟨(blk_cell BK310.out 0).trans rfl, (blk_cell BK310.out 1).trans rfl, (blk_cell BK310.out 2).trans rfl, (blk_cell BK310.out 3).trans rfl, (blk_cell BK310.out 4).trans rfl, (blk_cell BK310.out 5).trans rfl, ((HB.out.cell (World.block_lt_of_cell? w _ hw318_0)).trans hw318_0), ((HB.out.cell (World.block_lt_of_cell? w _ hw318_1)).trans hw318_1), ((HB.out.cell (World.block_lt_of_cell? w _ hw318_2)).trans hw318_2), ((HB.out.cell (World.block_lt_of_cell? w _ hw318_3)).trans hw318_3), ((HB.out.cell (World.block_lt_of_cell? w _ hw318_4)).trans hw318_4), ((HB.out.cell (World.block_lt_of_cell? w _ hw318_5)).trans hw318_5)⟩ (fun hHeld => ?_)
                    generalize wr.drew = w30 at HO_5 BK310 HB hx318_0 hx318_1 hx318_2 hx318_3 hx318_4 hx318_5 hHeld ⊢
                    refine pure_ (i := 0) (N := some 50) (v := ?_) (a' := ?_) #[true, false, false, false, false, false] rfl rfl (by kernel_rfl) (fun _ _ _ h => h) (Or.inl ⟨by rfl, ?_⟩) ?_ ?_
                    rotate_left
                    · intro w'
                      go_simp
                      with_reducible rfl
                    rotate_left
                    · simp only [Act.put, List.setIfInBounds_toArray, List.set_cons_zero, List.set_cons_succ, i64_w, i32_w]
                      rfl
                    refine pure_ (i := 1) (N := some 51) (v := ?_) (a' := ?_) #[true, true, false, false, false, false] rfl rfl (by kernel_rfl) (fun _ _ _ h => h) (Or.inl ⟨by rfl, ?_⟩) ?_ ?_
                    rotate_left
                    · intro w'
                      go_simp
                      with_reducible rfl
                    rotate_left
                    · simp only [Act.put, List.setIfInBounds_toArray, List.set_cons_zero, List.set_cons_succ, i64_w, i32_w]
                      rfl
                    refine pure_ (i := 2) (N := some 52) (v := ?_) (a' := ?_) #[true, true, true, false, false, false] rfl rfl (by kernel_rfl) (fun _ _ _ h => h) (Or.inl ⟨by rfl, ?_⟩) ?_ ?_
                    rotate_left
                    · intro w'
                      go_simp
                      with_reducible rfl
                    rotate_left
                    · simp only [Act.put, List.setIfInBounds_toArray, List.set_cons_zero, List.set_cons_succ, i64_w, i32_w]
                      rfl
                    refine take_ (i := 3) (N := some 53) (v := ?_) (a' := ?_) #[true, true, true, true, false, false] rfl rfl (by kernel_rfl) (fun _ _ _ h => h) (Or.inl ⟨by rfl, ?_⟩) hHeld ?_ ?_
                    rotate_left
                    · rintro w' ⟨s0, s1, s2, s3, s4, s5, s6, s7, s8, s9, s10, s11⟩
                      go_simp
                      with_reducible rfl
                    rotate_left
                    · simp only [Act.put, List.setIfInBounds_toArray, List.set_cons_zero, List.set_cons_succ, i64_w, i32_w]
                      rfl
                    refine take_ (i := 4) (N := some 54) (v := ?_) (a' := ?_) #[true, true, true, true, true, false] rfl rfl (by kernel_rfl) (fun _ _ _ h => h) (Or.inl ⟨by rfl, ?_⟩) hHeld ?_ ?_
                    rotate_left
                    · rintro w' ⟨s0, s1, s2, s3, s4, s5, s6, s7, s8, s9, s10, s11⟩
                      go_simp
                      with_reducible rfl
                    rotate_left
                    · simp only [Act.put, List.setIfInBounds_toArray, List.set_cons_zero, List.set_cons_succ, i64_w, i32_w]
                      rfl
                    refine pure_ (i := 5) (N := some 55) (v := ?_) (a' := ?_) #[true, true, true, true, true, true] rfl rfl (by kernel_rfl) (fun _ _ _ h => h) (Or.inl ⟨by rfl, ?_⟩) ?_ ?_
                    rotate_left
                    · intro w'
                      go_simp
                      with_reducible rfl
                    rotate_left
                    · simp only [Act.put, List.setIfInBounds_toArray, List.set_cons_zero, List.set_cons_succ, i64_w, i32_w]
                      rfl
                    refine done_ (by kernel_rfl) ?_
                    try go_wp2
                    go_roundg k2
                    case measure => have := HK1.out; have := HK2.out; omega
                    case rel => exact ⟨(wrap64 (x7_2 + 1)), (wrap64 (x9_2 + 1)), (by first | rfl | (simp; done) | (simp [*]; done)), (by first | rfl | (simp; done) | (simp [*]; done)), H', ⟨by have := HK1.out; have := HK2.out; omega⟩, ⟨by (with_reducible repeat (first | apply Kd.R_alloc | apply Kd.R_drewN | apply Kd.R_drew)); exact HO_5.out⟩, ⟨by (with_reducible repeat (first | refine blk_drewN ?_ _ | refine blk_drew ?_ | refine blk_alloc ?_ _)); exact BK310.out⟩, ⟨by repeat (first | (with_reducible first | exact HB.out | apply below_alloc | apply pw_below_drewN | apply below_drew1 | refine below_set ?_ GE310.out) | exact HB.out)⟩⟩
                  · rw [if_neg c29] at H
                    have c29b0 : ((((rd_T34 l0 x9_2).f0.f0) == a1_0 && (((rd_T34 l0 x9_2).f0.f1) == a1_1)) && (((rd_T34 l0 x9_2).f1) == a1_2 && (((rd_T34 l0 x9_2).f2) == a1_3 && (((rd_T34 l0 x9_2).f3) == a1_4 && (((rd_T34 l0 x9_2).f4) == a1_5))))) = false := by simpa using c29
                    clear c29
                    have H' := Aside0.mk H
                    clear H
                    try go_wp2
                    have n0_ := Aside0.mk (Kd.R_drew HO_5.out)
                    have n1_ := Aside0.mk (blk_drew BK310.out)
                    have n2_ := Aside0.mk (below_drew1 HB.out)
                    clear HO_5
                    clear BK310
                    clear HB
                    have HO_5 := n0_
                    have BK310 := n1_
                    have HB := n2_
                    clear n0_ n1_ n2_
                    have p318 : 0 ≤ (x9_2 : Int) := of_decide_eq_true (by first | (with_reducible assumption) | assumption)
                    have q318 : x9_2 < (l0.length : Int) := of_decide_eq_true (by first | (with_reducible assumption) | assumption)
                    obtain ⟨ad318, e318, hx318_0, hx318_1, hx318_2, hx318_3, hx318_4, hx318_5⟩ := at_T34 HR0.out x9_2 p318 q318
                    have hw318_5 := hx318_5
                    have hw318_4 := hx318_4
                    have hw318_3 := hx318_3
                    have hw318_2 := hx318_2
                    have hw318_1 := hx318_1
                    have hw318_0 := hx318_0
                    cases e318
                    replace hx318_0 := (HB.out.cell (World.block_lt_of_cell? w _ hx318_0)).trans hx318_0
                    replace hx318_1 := (HB.out.cell (World.block_lt_of_cell? w _ hx318_1)).trans hx318_1
                    replace hx318_2 := (HB.out.cell (World.block_lt_of_cell? w _ hx318_2)).trans hx318_2
                    replace hx318_3 := (HB.out.cell (World.block_lt_of_cell? w _ hx318_3)).trans hx318_3
                    replace hx318_4 := (HB.out.cell (World.block_lt_of_cell? w _ hx318_4)).trans hx318_4
                    replace hx318_5 := (HB.out.cell (World.block_lt_of_cell? w _ hx318_5)).trans hx318_5
                    replace p318 := eq_true p318
                    replace q318 := eq_true q318
                    refine start_ (n := 6) (S := fun w' => w'.cell? ⟨gb310, 0, none⟩ = some (.int .i64 a1_0) ∧ w'.cell? ⟨gb310, 1, none⟩ = some (.int .i64 a1_1) ∧ w'.cell? ⟨gb310, 2, none⟩ = some (.int .i64 a1_2) ∧ w'.cell? ⟨gb310, 3, none⟩ = some (.int .i64 a1_3) ∧ w'.cell? ⟨gb310, 4, none⟩ = some (.int .i64 a1_4) ∧ w'.cell? ⟨gb310, 5, none⟩ = some (.int .i64 a1_5) ∧ w'.cell? (ad318.add ((x9_2).toNat * 6)) = some (.int .i64 ((rd_T34 l0 x9_2).f0.f0)) ∧ w'.cell? ⟨(ad318.add ((x9_2).toNat * 6)).block, (ad318.add ((x9_2).toNat * 6)).off + 1, none⟩ = some (.int .i64 ((rd_T34 l0 x9_2).f0.f1)) ∧ w'.cell? ⟨(ad318.add ((x9_2).toNat * 6)).block, (ad318.add ((x9_2).toNat * 6)).off + 2, none⟩ = some (.int .i64 ((rd_T34 l0 x9_2).f1)) ∧ w'.cell? ⟨(ad318.add ((x9_2).toNat * 6)).block, (ad318.add ((x9_2).toNat * 6)).off + 3, none⟩ = some (.int .i64 ((rd_T34 l0 x9_2).f2)) ∧ w'.cell? ⟨(ad318.add ((x9_2).toNat * 6)).block, (ad318.add ((x9_2).toNat * 6)).off + 4, none⟩ = some (.int .i64 ((rd_T34 l0 x9_2).f3)) ∧ w'.cell? ⟨(ad318.add ((x9_2).toNat * 6)).block, (ad318.add ((x9_2).toNat * 6)).off + 5, none⟩ = some (.int .i64 ((rd_T34 l0 x9_2).f4))) (ds := []) #[false, false, false, false, false, false] (by kernel_rfl) rfl rfl ⟨(blk_cell BK310.out 0).trans rfl, (blk_cell BK310.out 1).trans rfl, (blk_cell BK310.out 2).trans rfl, (blk_cell BK310.out 3).trans rfl, (blk_cell BK310.out 4).trans rfl, (blk_cell BK310.out 5).trans rfl, ((HB.out.cell (World.block_lt_of_cell? w _ hw318_0)).trans hw318_0), ((HB.out.cell (World.block_lt_of_cell? w _ hw318_1)).trans hw318_1), ((HB.out.cell (World.block_lt_of_cell? w _ hw318_2)).trans hw318_2), ((HB.out.cell (World.block_lt_of_cell? w _ hw318_3)).trans hw318_3), ((HB.out.cell (World.block_lt_of_cell? w _ hw318_4)).trans hw318_4), ((HB.out.cell (World.block_lt_of_cell? w _ hw318_5)).trans hw318_5)⟩ (fun hHeld => ?_)
                    generalize wr.drew = w31 at HO_5 BK310 HB hx318_0 hx318_1 hx318_2 hx318_3 hx318_4 hx318_5 hHeld ⊢
                    refine pure_ (i := 0) (N := some 50) (v := ?_) (a' := ?_) #[true, false, false, false, false, false] rfl rfl (by kernel_rfl) (fun _ _ _ h => h) (Or.inl ⟨by rfl, ?_⟩) ?_ ?_
                    rotate_left
                    · intro w'
                      go_simp
                      with_reducible rfl
                    rotate_left
                    · simp only [Act.put, List.setIfInBounds_toArray, List.set_cons_zero, List.set_cons_succ, i64_w, i32_w]
                      rfl
                    refine pure_ (i := 1) (N := some 51) (v := ?_) (a' := ?_) #[true, true, false, false, false, false] rfl rfl (by kernel_rfl) (fun _ _ _ h => h) (Or.inl ⟨by rfl, ?_⟩) ?_ ?_
                    rotate_left
                    · intro w'
                      go_simp
                      with_reducible rfl
                    rotate_left
                    · simp only [Act.put, List.setIfInBounds_toArray, List.set_cons_zero, List.set_cons_succ, i64_w, i32_w]
                      rfl
                    refine pure_ (i := 2) (N := some 52) (v := ?_) (a' := ?_) #[true, true, true, false, false, false] rfl rfl (by kernel_rfl) (fun _ _ _ h => h) (Or.inl ⟨by rfl, ?_⟩) ?_ ?_
                    rotate_left
                    · intro w'
                      go_simp
                      with_reducible rfl
                    rotate_left
                    · simp only [Act.put, List.setIfInBounds_toArray, List.set_cons_zero, List.set_cons_succ, i64_w, i32_w]
                      rfl
                    refine take_ (i := 3) (N := some 53) (v := ?_) (a' := ?_) #[true, true, true, true, false, false] rfl rfl (by kernel_rfl) (fun _ _ _ h => h) (Or.inl ⟨by rfl, ?_⟩) hHeld ?_ ?_
                    rotate_left
                    · rintro w' ⟨s0, s1, s2, s3, s4, s5, s6, s7, s8, s9, s10, s11⟩
                      go_simp
                      with_reducible rfl
                    rotate_left
                    · simp only [Act.put, List.setIfInBounds_toArray, List.set_cons_zero, List.set_cons_succ, i64_w, i32_w]
                      rfl
                    refine take_ (i := 4) (N := some 54) (v := ?_) (a' := ?_) #[true, true, true, true, true, false] rfl rfl (by kernel_rfl) (fun _ _ _ h => h) (Or.inl ⟨by rfl, ?_⟩) hHeld ?_ ?_
                    rotate_left
                    · rintro w' ⟨s0, s1, s2, s3, s4, s5, s6, s7, s8, s9, s10, s11⟩
                      go_simp
                      with_reducible rfl
                    rotate_left
                    · simp only [Act.put, List.setIfInBounds_toArray, List.set_cons_zero, List.set_cons_succ, i64_w, i32_w]
                      rfl
                    refine pure_ (i := 5) (N := some 55) (v := ?_) (a' := ?_) #[true, true, true, true, true, true] rfl rfl (by kernel_rfl) (fun _ _ _ h => h) (Or.inl ⟨by rfl, ?_⟩) ?_ ?_
                    rotate_left
                    · intro w'
                      go_simp
                      with_reducible rfl
                    rotate_left
                    · simp only [Act.put, List.setIfInBounds_toArray, List.set_cons_zero, List.set_cons_succ, i64_w, i32_w]
                      rfl
                    refine done_ (by kernel_rfl) ?_
                    try go_wp2
                    go_roundg k2
                    case measure => have := HK1.out; have := HK2.out; omega
                    case rel => exact ⟨(x7_2), (wrap64 (x9_2 + 1)), (by first | rfl | (simp; done) | (simp [*]; done)), (by first | rfl | (simp; done) | (simp [*]; done)), H', ⟨by have := HK1.out; have := HK2.out; omega⟩, ⟨by (with_reducible repeat (first | apply Kd.R_alloc | apply Kd.R_drewN | apply Kd.R_drew)); exact HO_5.out⟩, ⟨by (with_reducible repeat (first | refine blk_drewN ?_ _ | refine blk_drew ?_ | refine blk_alloc ?_ _)); exact BK310.out⟩, ⟨by repeat (first | (with_reducible first | exact HB.out | apply below_alloc | apply pw_below_drewN | apply below_drew1 | refine below_set ?_ GE310.out) | exact HB.out)⟩⟩
                · rw [if_neg c28] at H
                  exact absurd H (by simp)
              · rw [if_neg c27] at H
                have c27b0 : decide (x9_2 < (l0.length : Int)) = false := decide_eq_false c27
                clear c27
                replace H := Option.bind_eq_some_iff.mp H
                obtain ⟨t319, A320, H⟩ := H
                replace H : (if t319 = true then (if x6_1 = x7_2 then (if (t311.length : Int) = (l0.length : Int) then ((rank_Sort.f t311).bind fun t320 => ((watchmanref07_Same.f k2 t320 t311).bind fun t323 => (some t323))) else (none)) else (none)) else (none)) = some r := H
                have A32 := Aside0.mk A320
                clear A320
                by_cases c33 : t319 = true
                · subst c33
                  have H1 : (if x6_1 = x7_2 then (if (t311.length : Int) = (l0.length : Int) then ((rank_Sort.f t311).bind fun t320 => ((watchmanref07_Same.f k2 t320 t311).bind fun t323 => (some t323))) else (none)) else (none)) = some r := by rw [if_pos rfl] at H; exact H
                  clear H
                  have H := H1
                  clear H1
                  by_cases c34 : x6_1 = x7_2
                  · rw [if_pos c34] at H
                    have c34b0 : (x6_1 == x7_2) = true := beq_iff_eq.mpr c34
                    have c34b1 : (x6_1 != x7_2) = false := bne_eq_false_iff_eq.mpr c34
                    clear c34
                    by_cases c35 : (t311.length : Int) = (l0.length : Int)
                    · rw [if_pos c35] at H
                      have c35b0 : ((t311.length : Int) == (l0.length : Int)) = true := beq_iff_eq.mpr c35
                      have c35b1 : ((t311.length : Int) != (l0.length : Int)) = false := bne_eq_false_iff_eq.mpr c35
                      have c35b2 : (t311.length == l0.length) = true := by first | simpa using c35 | (simp at c35 ⊢; omega)
                      clear c35
                      replace H := Option.bind_eq_some_iff.mp H
                      obtain ⟨t320, A360, H⟩ := H
                      replace H : ((watchmanref07_Same.f k2 t320 t311).bind fun t323 => (some t323)) = some r := H
                      have A36 := Aside0.mk A360
                      clear A360
                      replace H := Option.bind_eq_some_iff.mp H
                      obtain ⟨t323, A370, H⟩ := H
                      replace H : (some t323) = some r := H
                      have A37 := Aside0.mk A370
                      clear A370
                      obtain rfl := Option.some.inj H
                      go_wp2_with (first | ((with_reducible refine gate_callee (f := 21) rfl ?_); refine goesL_ (some 58) rfl rfl Try.func21 (by kernel_rfl) rfl #[] rfl (by (try simp only [List.map_toArray, List.map_cons, List.map_nil]); first | done | rfl | (simp only [List.length_drop, List.length_take]; rfl)) ?_; (with_reducible refine (watchmanlaw07_ranked.calls k2  true _ A32.out).mono ?_); rintro e w38 ⟨rfl, hb⟩; refine ⟨_, rfl, ?_⟩; have n0_ := Aside0.mk (Kd.R_below (by (with_reducible repeat (first | apply Kd.R_alloc | apply Kd.R_drewN | apply Kd.R_drew)); exact HO_5.out) hb); have n1_ := Aside0.mk (blk_below (g := gb310) (o := .cells #[.int .i64 a1_0, .int .i64 a1_1, .int .i64 a1_2, .int .i64 a1_3, .int .i64 a1_4, .int .i64 a1_5] 34 (0, 0)) (by (with_reducible repeat (first | refine blk_drewN ?_ _ | refine blk_drew ?_ | refine blk_alloc ?_ _)); exact BK310.out) hb); have n2_ := Aside0.mk (below_step (by repeat (first | (with_reducible first | exact HB.out | apply below_alloc | apply pw_below_drewN | apply below_drew1 | refine below_set ?_ GE310.out) | exact HB.out)) hb); clear HO_5; clear BK310; clear HB; have HO_5 := n0_; have BK310 := n1_; have HB := n2_; clear n0_ n1_ n2_; (try clear hb); (try clear hb2); (try clear hk); (try clear hi)) | (go_at_call 9; (with_reducible refine (rank_Sort.calls _ _ t311 t320 _ ?side1 ?side2 A36.out).mono ?_); (case side1 => repeat (first | exact (Kd.R_reads' HO_5.out).2.2 | (with_reducible refine Kd.C_alloc ?_ _) | (with_reducible refine Kd.C_drewN ?_ _) | (with_reducible refine Kd.C_drew ?_))); (case side2 => exact (Kd.R_reads' HO_5.out).2.1); rintro e w39 ⟨v321, rfl, ho0, hb⟩; have n0_ := Aside0.mk (Kd.R_elder' (by (with_reducible repeat (first | apply Kd.R_alloc | apply Kd.R_drewN | apply Kd.R_drew)); exact HO_5.out) (Kd.R_base ho0) hb); have n1_ := Aside0.mk (Kd.R_lower (Kd.R_newB (Kd.R_new' ho0 (Kd.R_lt (by (with_reducible repeat (first | apply Kd.R_alloc | apply Kd.R_drewN | apply Kd.R_drew)); exact HO_5.out))) (g := gb310) (o := .cells #[.int .i64 a1_0, .int .i64 a1_1, .int .i64 a1_2, .int .i64 a1_3, .int .i64 a1_4, .int .i64 a1_5] 34 (0, 0)) (by (with_reducible repeat (first | refine blk_drewN ?_ _ | refine blk_drew ?_ | refine blk_alloc ?_ _)); exact BK310.out)) (below_size (by repeat (first | (with_reducible first | exact HB.out | apply below_alloc | apply pw_below_drewN | apply below_drew1 | refine below_set ?_ GE310.out) | exact HB.out)))); have n2_ := Aside0.mk (blk_below (g := gb310) (o := .cells #[.int .i64 a1_0, .int .i64 a1_1, .int .i64 a1_2, .int .i64 a1_3, .int .i64 a1_4, .int .i64 a1_5] 34 (0, 0)) (by (with_reducible repeat (first | refine blk_drewN ?_ _ | refine blk_drew ?_ | refine blk_alloc ?_ _)); exact BK310.out) hb); have n3_ := Aside0.mk (below_step (by repeat (first | (with_reducible first | exact HB.out | apply below_alloc | apply pw_below_drewN | apply below_drew1 | refine below_set ?_ GE310.out) | exact HB.out)) hb); clear HO_5; clear BK310; clear HB; have HO_5 := n0_; have HO322 := n1_; have BK310 := n2_; have HB := n3_; clear n0_ n1_ n2_ n3_; (try clear hb); (try clear hb2); (try clear hk); (try clear hi); (try clear ho0); obtain ⟨Ao40, co40, eo40⟩ := Kd.R_slice HO322.out; subst eo40) | (go_at_call 14; (with_reducible refine (watchmanref07_Same.calls k2 _ _ t320 _ _ t311 t323 _ ?side1 ?side2 ?side3 ?side4 A37.out).mono ?_); (case side1 => repeat (first | exact (Kd.R_reads' HO322.out).2.2 | (with_reducible refine Kd.C_alloc ?_ _) | (with_reducible refine Kd.C_drewN ?_ _) | (with_reducible refine Kd.C_drew ?_))); (case side2 => exact (Kd.R_reads' HO322.out).2.1); (case side3 => repeat (first | exact (Kd.R_reads' HO_5.out).2.2 | (with_reducible refine Kd.C_alloc ?_ _) | (with_reducible refine Kd.C_drewN ?_ _) | (with_reducible refine Kd.C_drew ?_))); (case side4 => exact (Kd.R_reads' HO_5.out).2.1); rintro e w' ⟨rfl, ⟨nd, rfl⟩⟩))
                      go_ret
                      exact ⟨by first | rfl | (simp [errW_none, errW_some] <;> rfl) | (simp [*, errW_none, errW_some] <;> rfl), by repeat (first | (with_reducible first | exact HB.out | apply below_alloc | apply pw_below_drewN | apply below_drew1 | refine below_set ?_ GE310.out) | exact HB.out)⟩
                    · rw [if_neg c35] at H
                      exact absurd H (by simp)
                  · rw [if_neg c34] at H
                    exact absurd H (by simp)
                · replace c33 := Bool.eq_false_iff.mpr c33
                  subst c33
                  have H1 : (none) = some r := by rw [if_neg (show ¬ (false = true) by decide)] at H; exact H
                  clear H
                  have H := H1
                  clear H1
                  exact absurd H (by simp)
end Go.Proofs.Ytjjagjehaoidbaa.P

namespace Go.Proofs.Ytjjagjehaoidbaa.P
open Go.RowKit Go.Proofs.YtjjagjehaoidbaaW.PrintWords Go.Proofs.YtjjagjehaoidbaaW.PrintLast Go.Proofs.YtjjagjehaoidbaaW.PrintMore
attribute [local go_sem] max2_int min2_int max_two min_two max_three min_three max_four min_four
set_option linter.unusedVariables false
set_option linter.unusedSimpArgs false
attribute [local go_sem high] eqA24
def watchmanlaw07_RankTop.j0 : Nat → List (S34) → List (S34) → Int → Int → Bool → Option (Bool)
  | 0, _, _, _, _, _ => none
  | k + 1, x0, x1, x2, x3, x19 => if x19 = true then (some true) else ((rank_Top.f x2 x0).bind fun t324 => ((rank_Top.f x2 x1).bind fun t327 => (if ([] : List (S34)).length + x0.length < 2932031007402 then ((some (([] : List (S34)) ++ x0 : List (S34))).bind fun y330 => (if y330.length + x1.length < 2932031007402 then ((watchmanlaw07_ranked.f k).bind fun t336 => (if t336 = true then ((rank_Top.f x3 t324).bind fun t337 => ((rank_Top.f (mn x2 x3) x0).bind fun t340 => ((watchmanref07_Same.f k t337 t340).bind fun t343 => (if t343 = true then ((rank_Merge.f t324 t327).bind fun t344 => ((rank_Top.f x2 t344).bind fun t347 => ((rank_Top.f x2 (y330 ++ x1)).bind fun t350 => ((watchmanref07_Same.f k t347 t350).bind fun t353 => (if t353 = true then (some (decide ((t324.length : Int) ≤ (x0.length : Int)))) else (none)))))) else (none))))) else (none))) else (none))) else (none))))
def watchmanlaw07_RankTop.f (k : Nat) (l0 : List (S34)) (l1 : List (S34)) (a2 : Int) (a3 : Int) : Option (Bool) := if (l0.length : Int) > 40 then (watchmanlaw07_RankTop.j0 k l0 l1 a2 a3 true) else (watchmanlaw07_RankTop.j0 k l0 l1 a2 a3 (decide ((l1.length : Int) > 40)))
theorem watchmanlaw07_RankTop.mono_l : ∀ k, (∀ y0 y1 y2 y3 y4, LeO (watchmanlaw07_RankTop.j0 k y0 y1 y2 y3 y4) (watchmanlaw07_RankTop.j0 (k + 1) y0 y1 y2 y3 y4))
  | 0 => fun _ _ _ _ _ r h => by simp [watchmanlaw07_RankTop.j0] at h
  | k + 1 => by
    have ih0 := watchmanlaw07_RankTop.mono_l k
    · intro y0 y1 y2 y3 y4
      unfold watchmanlaw07_RankTop.j0
      repeat' first
      | (with_reducible exact ih0 _ _ _ _ _)
      | (with_reducible exact watchmanlaw07_ranked.mono _)
      | (with_reducible exact watchmanref07_Same.mono _ _ _)
      | (with_reducible exact LeO.refl _)
      | (with_reducible exact LeO.none _)
      | (with_reducible refine LeO.ite ?_ ?_)
      | (with_reducible refine LeO.bind ?_ (fun _ => ?_))
      | exact ih0 _ _ _ _ _
      | exact watchmanlaw07_ranked.mono _
      | exact watchmanref07_Same.mono _ _ _
      | exact LeO.none _
      | refine LeO.ite ?_ ?_
      | refine LeO.bind ?_ (fun _ => ?_)
theorem watchmanlaw07_RankTop.mono : ∀ a0 a1 a2 a3 k, LeO (watchmanlaw07_RankTop.f k a0 a1 a2 a3) (watchmanlaw07_RankTop.f (k + 1) a0 a1 a2 a3) := by
  intro a0 a1 a2 a3 k
  have ih0 := watchmanlaw07_RankTop.mono_l k
  unfold watchmanlaw07_RankTop.f
  repeat' first
      | (with_reducible exact ih0 _ _ _ _ _)
      | (with_reducible exact watchmanlaw07_ranked.mono _)
      | (with_reducible exact watchmanref07_Same.mono _ _ _)
      | (with_reducible exact LeO.refl _)
      | (with_reducible exact LeO.none _)
      | (with_reducible refine LeO.ite ?_ ?_)
      | (with_reducible refine LeO.bind ?_ (fun _ => ?_))
      | exact ih0 _ _ _ _ _
      | exact watchmanlaw07_ranked.mono _
      | exact watchmanref07_Same.mono _ _ _
      | exact LeO.none _
      | refine LeO.ite ?_ ?_
      | refine LeO.bind ?_ (fun _ => ?_)
set_option maxHeartbeats 8000000 in
set_option maxRecDepth 100000 in
theorem watchmanlaw07_RankTop.calls (k : Nat) (A0 : Option Addr) (c0 : Nat) (l0 : List (S34)) (A1 : Option Addr) (c1 : Nat) (l1 : List (S34)) (a2 : Int) (a3 : Int) (r : Bool) (w : World) (hr0 : Kd.C k34 w A0 l0.length l0) (hc0 : l0.length ≤ c0) (hr1 : Kd.C k34 w A1 l1.length l1) (hc1 : l1.length ≤ c1) (h : watchmanlaw07_RankTop.f k l0 l1 a2 a3 = some r) :
    Calls Try.prog 6 #[.slice A0 l0.length c0, .slice A1 l1.length c1, .int .i64 a2, .int .i64 a3] w fun e w' => e = .returned (.bool r) ∧ Below w.heap.size w w' := by
  have HR0 := Aside0.mk hr0
  have HC0 := Aside0.mk hc0
  clear hr0 hc0
  have HR1 := Aside0.mk hr1
  have HC1 := Aside0.mk hc1
  clear hr1 hc1
  have HB := Aside0.mk (Below.refl w.heap.size w)
  have H : (if (l0.length : Int) > 40 then (watchmanlaw07_RankTop.j0 k l0 l1 a2 a3 true) else (watchmanlaw07_RankTop.j0 k l0 l1 a2 a3 (decide ((l1.length : Int) > 40)))) = some r := h
  clear h
  have HC5 := Aside0.mk H
  clear H
  go_enter Try.func6, Try.ntmps6
  go_upto_region 1 with (fail)
  go_cut [19] (fun v19 wc => ∃ (kq : Nat) (x19_4 : Bool), v19 = .bool x19_4 ∧ Aside0 (watchmanlaw07_RankTop.j0 kq l0 l1 a2 a3 x19_4 = some r) ∧ Aside0 (kq ≤ k) ∧ Aside0 (Below w.heap.size w wc))
  case first =>
    have H := HC5.out
    clear HC5
    by_cases c6 : (l0.length : Int) > 40
    · rw [if_pos c6] at H
      have c6b0 : decide (40 < (l0.length : Int)) = true := decide_eq_true c6
      have c6b1 : decide (40 < l0.length) = true := decide_eq_true (by omega)
      clear c6
      (first | rw [c6b0] | (simp only [i64_w, i32_w]; rw [c6b0]) | skip)
      have H' := Aside0.mk H
      clear H
      go_wp2
      go_meet
      case rel => exact ⟨_, (true), (by first | rfl | (simp; done) | (simp [*]; done)), H', ⟨by first | omega | exact Nat.le_refl _⟩, ⟨by repeat (first | (with_reducible first | exact HB.out | apply below_alloc | apply pw_below_drewN | apply below_drew1) | exact HB.out)⟩⟩
    · rw [if_neg c6] at H
      have c6b0 : decide (40 < (l0.length : Int)) = false := decide_eq_false c6
      have c6b1 : decide (40 < l0.length) = false := decide_eq_false (by omega)
      clear c6
      (first | rw [c6b0] | (simp only [i64_w, i32_w]; rw [c6b0]) | skip)
      have H' := Aside0.mk H
      clear H
      go_wp2
      go_meet
      case rel => exact ⟨_, (decide ((l1.length : Int) > 40)), (by first | rfl | (simp; done) | (simp [*]; done)), H', ⟨by first | omega | exact Nat.le_refl _⟩, ⟨by repeat (first | (with_reducible first | exact HB.out | apply below_alloc | apply pw_below_drewN | apply below_drew1) | exact HB.out)⟩⟩
  case rest =>
    clear HC5
    try clear c1
    try clear p2
    try clear c6
    try clear c6b0
    try clear c6b1
    obtain ⟨kq, x19_4, rfl, HA, HJ4, HB⟩ := hcut
    cases kq with
    | zero => exact absurd HA.out (by simp [watchmanlaw07_RankTop.j0])
    | succ kj4 =>
      have H := HA.out
      clear HA
      simp only [watchmanlaw07_RankTop.j0] at H
      by_cases c7 : x19_4 = true
      · subst c7
        have H1 : (some true) = some r := by rw [if_pos rfl] at H; exact H
        clear H
        have H := H1
        clear H1
        obtain rfl := Option.some.inj H
        go_wp2
        go_ret
        exact ⟨by first | rfl | (simp [errW_none, errW_some] <;> rfl) | (simp [*, errW_none, errW_some] <;> rfl), by repeat (first | (with_reducible first | exact HB.out | apply below_alloc | apply pw_below_drewN | apply below_drew1) | exact HB.out)⟩
      · replace c7 := Bool.eq_false_iff.mpr c7
        subst c7
        have H1 : ((rank_Top.f a2 l0).bind fun t324 => ((rank_Top.f a2 l1).bind fun t327 => (if ([] : List (S34)).length + l0.length < 2932031007402 then ((some (([] : List (S34)) ++ l0 : List (S34))).bind fun y330 => (if y330.length + l1.length < 2932031007402 then ((watchmanlaw07_ranked.f kj4).bind fun t336 => (if t336 = true then ((rank_Top.f a3 t324).bind fun t337 => ((rank_Top.f (mn a2 a3) l0).bind fun t340 => ((watchmanref07_Same.f kj4 t337 t340).bind fun t343 => (if t343 = true then ((rank_Merge.f t324 t327).bind fun t344 => ((rank_Top.f a2 t344).bind fun t347 => ((rank_Top.f a2 (y330 ++ l1)).bind fun t350 => ((watchmanref07_Same.f kj4 t347 t350).bind fun t353 => (if t353 = true then (some (decide ((t324.length : Int) ≤ (l0.length : Int)))) else (none)))))) else (none))))) else (none))) else (none))) else (none)))) = some r := by rw [if_neg (show ¬ (false = true) by decide)] at H; exact H
        clear H
        have H := H1
        clear H1
        replace H := Option.bind_eq_some_iff.mp H
        obtain ⟨t324, A80, H⟩ := H
        replace H : ((rank_Top.f a2 l1).bind fun t327 => (if ([] : List (S34)).length + l0.length < 2932031007402 then ((some (([] : List (S34)) ++ l0 : List (S34))).bind fun y330 => (if y330.length + l1.length < 2932031007402 then ((watchmanlaw07_ranked.f kj4).bind fun t336 => (if t336 = true then ((rank_Top.f a3 t324).bind fun t337 => ((rank_Top.f (mn a2 a3) l0).bind fun t340 => ((watchmanref07_Same.f kj4 t337 t340).bind fun t343 => (if t343 = true then ((rank_Merge.f t324 t327).bind fun t344 => ((rank_Top.f a2 t344).bind fun t347 => ((rank_Top.f a2 (y330 ++ l1)).bind fun t350 => ((watchmanref07_Same.f kj4 t347 t350).bind fun t353 => (if t353 = true then (some (decide ((t324.length : Int) ≤ (l0.length : Int)))) else (none)))))) else (none))))) else (none))) else (none))) else (none))) = some r := H
        have A8 := Aside0.mk A80
        clear A80
        replace H := Option.bind_eq_some_iff.mp H
        obtain ⟨t327, A90, H⟩ := H
        replace H : (if ([] : List (S34)).length + l0.length < 2932031007402 then ((some (([] : List (S34)) ++ l0 : List (S34))).bind fun y330 => (if y330.length + l1.length < 2932031007402 then ((watchmanlaw07_ranked.f kj4).bind fun t336 => (if t336 = true then ((rank_Top.f a3 t324).bind fun t337 => ((rank_Top.f (mn a2 a3) l0).bind fun t340 => ((watchmanref07_Same.f kj4 t337 t340).bind fun t343 => (if t343 = true then ((rank_Merge.f t324 t327).bind fun t344 => ((rank_Top.f a2 t344).bind fun t347 => ((rank_Top.f a2 (y330 ++ l1)).bind fun t350 => ((watchmanref07_Same.f kj4 t347 t350).bind fun t353 => (if t353 = true then (some (decide ((t324.length : Int) ≤ (l0.length : Int)))) else (none)))))) else (none))))) else (none))) else (none))) else (none)) = some r := H
        have A9 := Aside0.mk A90
        clear A90
        by_cases c10 : ([] : List (S34)).length + l0.length < 2932031007402
        · rw [if_pos c10] at H
          have LMc10 := Aside0.mk c10
          clear c10
          obtain ⟨y330, hy330⟩ : ∃ y_ : List (S34), y_ = (([] : List (S34)) ++ l0) := ⟨_, rfl⟩
          replace H : (if y330.length + l1.length < 2932031007402 then ((watchmanlaw07_ranked.f kj4).bind fun t336 => (if t336 = true then ((rank_Top.f a3 t324).bind fun t337 => ((rank_Top.f (mn a2 a3) l0).bind fun t340 => ((watchmanref07_Same.f kj4 t337 t340).bind fun t343 => (if t343 = true then ((rank_Merge.f t324 t327).bind fun t344 => ((rank_Top.f a2 t344).bind fun t347 => ((rank_Top.f a2 (y330 ++ l1)).bind fun t350 => ((watchmanref07_Same.f kj4 t347 t350).bind fun t353 => (if t353 = true then (some (decide ((t324.length : Int) ≤ (l0.length : Int)))) else (none)))))) else (none))))) else (none))) else (none)) = some r := by first | (rw [hy330]; with_reducible exact H) | (have H2_ := (Option.bind_some _ _).symm.trans H; rw [hy330]; with_reducible exact H2_) | (have H2_ := (Option.bind_some _ _).symm.trans H; with_reducible exact H2_) | with_reducible exact H | (rw [hy330]; exact H) | exact H
          have Ny330 := Aside0.mk hy330
          clear hy330
          by_cases c11 : y330.length + l1.length < 2932031007402
          · rw [if_pos c11] at H
            have LMc11 := Aside0.mk c11
            clear c11
            obtain ⟨y333, hy333⟩ : ∃ y_ : List (S34), y_ = (y330 ++ l1) := ⟨_, rfl⟩
            replace H : ((watchmanlaw07_ranked.f kj4).bind fun t336 => (if t336 = true then ((rank_Top.f a3 t324).bind fun t337 => ((rank_Top.f (mn a2 a3) l0).bind fun t340 => ((watchmanref07_Same.f kj4 t337 t340).bind fun t343 => (if t343 = true then ((rank_Merge.f t324 t327).bind fun t344 => ((rank_Top.f a2 t344).bind fun t347 => ((rank_Top.f a2 y333).bind fun t350 => ((watchmanref07_Same.f kj4 t347 t350).bind fun t353 => (if t353 = true then (some (decide ((t324.length : Int) ≤ (l0.length : Int)))) else (none)))))) else (none))))) else (none))) = some r := by first | (rw [hy333]; with_reducible exact H) | (have H2_ := (Option.bind_some _ _).symm.trans H; rw [hy333]; with_reducible exact H2_) | (have H2_ := (Option.bind_some _ _).symm.trans H; with_reducible exact H2_) | with_reducible exact H | (rw [hy333]; exact H) | exact H
            have Ny333 := Aside0.mk hy333
            clear hy333
            replace H := Option.bind_eq_some_iff.mp H
            obtain ⟨t336, A120, H⟩ := H
            replace H : (if t336 = true then ((rank_Top.f a3 t324).bind fun t337 => ((rank_Top.f (mn a2 a3) l0).bind fun t340 => ((watchmanref07_Same.f kj4 t337 t340).bind fun t343 => (if t343 = true then ((rank_Merge.f t324 t327).bind fun t344 => ((rank_Top.f a2 t344).bind fun t347 => ((rank_Top.f a2 y333).bind fun t350 => ((watchmanref07_Same.f kj4 t347 t350).bind fun t353 => (if t353 = true then (some (decide ((t324.length : Int) ≤ (l0.length : Int)))) else (none)))))) else (none))))) else (none)) = some r := H
            have A12 := Aside0.mk A120
            clear A120
            by_cases c13 : t336 = true
            · subst c13
              have H1 : ((rank_Top.f a3 t324).bind fun t337 => ((rank_Top.f (mn a2 a3) l0).bind fun t340 => ((watchmanref07_Same.f kj4 t337 t340).bind fun t343 => (if t343 = true then ((rank_Merge.f t324 t327).bind fun t344 => ((rank_Top.f a2 t344).bind fun t347 => ((rank_Top.f a2 y333).bind fun t350 => ((watchmanref07_Same.f kj4 t347 t350).bind fun t353 => (if t353 = true then (some (decide ((t324.length : Int) ≤ (l0.length : Int)))) else (none)))))) else (none))))) = some r := by rw [if_pos rfl] at H; exact H
              clear H
              have H := H1
              clear H1
              replace H := Option.bind_eq_some_iff.mp H
              obtain ⟨t337, A140, H⟩ := H
              replace H : ((rank_Top.f (mn a2 a3) l0).bind fun t340 => ((watchmanref07_Same.f kj4 t337 t340).bind fun t343 => (if t343 = true then ((rank_Merge.f t324 t327).bind fun t344 => ((rank_Top.f a2 t344).bind fun t347 => ((rank_Top.f a2 y333).bind fun t350 => ((watchmanref07_Same.f kj4 t347 t350).bind fun t353 => (if t353 = true then (some (decide ((t324.length : Int) ≤ (l0.length : Int)))) else (none)))))) else (none)))) = some r := H
              have A14 := Aside0.mk A140
              clear A140
              obtain ⟨ji15, hji15⟩ : ∃ j_ : Int, (mn a2 a3) = j_ := ⟨_, rfl⟩
              replace H : ((rank_Top.f (ji15) l0).bind fun t340 => ((watchmanref07_Same.f kj4 t337 t340).bind fun t343 => (if t343 = true then ((rank_Merge.f t324 t327).bind fun t344 => ((rank_Top.f a2 t344).bind fun t347 => ((rank_Top.f a2 y333).bind fun t350 => ((watchmanref07_Same.f kj4 t347 t350).bind fun t353 => (if t353 = true then (some (decide ((t324.length : Int) ≤ (l0.length : Int)))) else (none)))))) else (none)))) = some r := by first | (rw [hji15] at H; exact H) | (simp only [hji15] at H ⊢; exact H)
              (try rw [hji15] at A8)
              (try rw [hji15] at A9)
              (try rw [hji15] at A12)
              (try rw [hji15] at A14)
              have hji15_ : (if a3 < a2 then a3 else a2) = ji15 := hji15
              replace H := Option.bind_eq_some_iff.mp H
              obtain ⟨t340, A160, H⟩ := H
              replace H : ((watchmanref07_Same.f kj4 t337 t340).bind fun t343 => (if t343 = true then ((rank_Merge.f t324 t327).bind fun t344 => ((rank_Top.f a2 t344).bind fun t347 => ((rank_Top.f a2 y333).bind fun t350 => ((watchmanref07_Same.f kj4 t347 t350).bind fun t353 => (if t353 = true then (some (decide ((t324.length : Int) ≤ (l0.length : Int)))) else (none)))))) else (none))) = some r := H
              have A16 := Aside0.mk A160
              clear A160
              replace H := Option.bind_eq_some_iff.mp H
              obtain ⟨t343, A170, H⟩ := H
              replace H : (if t343 = true then ((rank_Merge.f t324 t327).bind fun t344 => ((rank_Top.f a2 t344).bind fun t347 => ((rank_Top.f a2 y333).bind fun t350 => ((watchmanref07_Same.f kj4 t347 t350).bind fun t353 => (if t353 = true then (some (decide ((t324.length : Int) ≤ (l0.length : Int)))) else (none)))))) else (none)) = some r := H
              have A17 := Aside0.mk A170
              clear A170
              by_cases c18 : t343 = true
              · subst c18
                have H1 : ((rank_Merge.f t324 t327).bind fun t344 => ((rank_Top.f a2 t344).bind fun t347 => ((rank_Top.f a2 y333).bind fun t350 => ((watchmanref07_Same.f kj4 t347 t350).bind fun t353 => (if t353 = true then (some (decide ((t324.length : Int) ≤ (l0.length : Int)))) else (none)))))) = some r := by rw [if_pos rfl] at H; exact H
                clear H
                have H := H1
                clear H1
                replace H := Option.bind_eq_some_iff.mp H
                obtain ⟨t344, A190, H⟩ := H
                replace H : ((rank_Top.f a2 t344).bind fun t347 => ((rank_Top.f a2 y333).bind fun t350 => ((watchmanref07_Same.f kj4 t347 t350).bind fun t353 => (if t353 = true then (some (decide ((t324.length : Int) ≤ (l0.length : Int)))) else (none))))) = some r := H
                have A19 := Aside0.mk A190
                clear A190
                replace H := Option.bind_eq_some_iff.mp H
                obtain ⟨t347, A200, H⟩ := H
                replace H : ((rank_Top.f a2 y333).bind fun t350 => ((watchmanref07_Same.f kj4 t347 t350).bind fun t353 => (if t353 = true then (some (decide ((t324.length : Int) ≤ (l0.length : Int)))) else (none)))) = some r := H
                have A20 := Aside0.mk A200
                clear A200
                replace H := Option.bind_eq_some_iff.mp H
                obtain ⟨t350, A210, H⟩ := H
                replace H : ((watchmanref07_Same.f kj4 t347 t350).bind fun t353 => (if t353 = true then (some (decide ((t324.length : Int) ≤ (l0.length : Int)))) else (none))) = some r := H
                have A21 := Aside0.mk A210
                clear A210
                replace H := Option.bind_eq_some_iff.mp H
                obtain ⟨t353, A220, H⟩ := H
                replace H : (if t353 = true then (some (decide ((t324.length : Int) ≤ (l0.length : Int)))) else (none)) = some r := H
                have A22 := Aside0.mk A220
                clear A220
                by_cases c23 : t353 = true
                · subst c23
                  have H1 : (some (decide ((t324.length : Int) ≤ (l0.length : Int)))) = some r := by rw [if_pos rfl] at H; exact H
                  clear H
                  have H := H1
                  clear H1
                  obtain rfl := Option.some.inj H
                  go_wp2_with (first | ((with_reducible refine gate_callee (f := 10) rfl ?_); refine goesL_ (some 22) rfl rfl Try.func10 (by kernel_rfl) rfl #[.int .i64 a2, .slice A0 l0.length c0] rfl (by (try simp only [List.map_toArray, List.map_cons, List.map_nil]); first | done | rfl | (simp only [List.length_drop, List.length_take]; rfl)) ?_; (with_reducible refine (rank_Top.calls a2 _ _ l0 t324 _ ?side1 ?side2 A8.out).mono ?_); (case side1 => repeat (first | exact (Kd.C_below HR0.out HB.out) | (with_reducible refine Kd.C_alloc ?_ _) | (with_reducible refine Kd.C_drewN ?_ _) | (with_reducible refine Kd.C_drew ?_))); (case side2 => exact HC0.out); rintro e w24 ⟨v325, rfl, ho0, hb⟩; refine ⟨_, rfl, ?_⟩; have n0_ := Aside0.mk (Kd.R_lower ho0 (below_size (by repeat (first | (with_reducible first | exact HB.out | apply below_alloc | apply pw_below_drewN | apply below_drew1) | exact HB.out)))); have n1_ := Aside0.mk (below_step (by repeat (first | (with_reducible first | exact HB.out | apply below_alloc | apply pw_below_drewN | apply below_drew1) | exact HB.out)) hb); clear HB; have HO326 := n0_; have HB := n1_; clear n0_ n1_; (try clear hb); (try clear hb2); (try clear hk); (try clear hi); (try clear ho0)) | ((with_reducible refine gate_callee (f := 10) rfl ?_); refine goesL_ (some 25) rfl rfl Try.func10 (by kernel_rfl) rfl #[.int .i64 a2, .slice A1 l1.length c1] rfl (by (try simp only [List.map_toArray, List.map_cons, List.map_nil]); first | done | rfl | (simp only [List.length_drop, List.length_take]; rfl)) ?_; (with_reducible refine (rank_Top.calls a2 _ _ l1 t327 _ ?side1 ?side2 A9.out).mono ?_); (case side1 => repeat (first | exact (Kd.C_below HR1.out HB.out) | (with_reducible refine Kd.C_alloc ?_ _) | (with_reducible refine Kd.C_drewN ?_ _) | (with_reducible refine Kd.C_drew ?_))); (case side2 => exact HC1.out); rintro e w25 ⟨v328, rfl, ho0, hb⟩; refine ⟨_, rfl, ?_⟩; have n0_ := Aside0.mk (Kd.R_elder' (by (with_reducible repeat (first | apply Kd.R_alloc | apply Kd.R_drewN | apply Kd.R_drew)); exact HO326.out) (Kd.R_base ho0) hb); have n1_ := Aside0.mk (Kd.R_lower (Kd.R_new' ho0 (Kd.R_lt (by (with_reducible repeat (first | apply Kd.R_alloc | apply Kd.R_drewN | apply Kd.R_drew)); exact HO326.out))) (below_size (by repeat (first | (with_reducible first | exact HB.out | apply below_alloc | apply pw_below_drewN | apply below_drew1) | exact HB.out)))); have n2_ := Aside0.mk (below_step (by repeat (first | (with_reducible first | exact HB.out | apply below_alloc | apply pw_below_drewN | apply below_drew1) | exact HB.out)) hb); clear HO326; clear HB; have HO326 := n0_; have HO329 := n1_; have HB := n2_; clear n0_ n1_ n2_; (try clear hb); (try clear hb2); (try clear hk); (try clear hi); (try clear ho0)) | ((with_reducible refine gate_builtin (b := .append) (xs := #[.tmp 26, .tmp 27]) rfl ?_); (try (refine gate_guard (by rfl) ?_; dsimp only)); at_builtin; refine Kd.R_append_rows k34 (w0 := w) w.heap.size rfl (.tmp 26) (.tmp 27) 22 34 (.agg #[(.int .i64 0), (.int .i64 0), (.int .i64 0), (.int .i64 0), (.int .i64 0), (.int .i64 0)]) 48 rfl Try.underlying22 info34 rfl (by decide) (by omega) (.slice none 0 0) ([] : List (S34)) l0 _ _ _ (fun k_ => some k_ ≠ (v325 : Value).ownBlock ∧ some k_ ≠ (v328 : Value).ownBlock) (fun _ => False) rfl rfl ?aO ?aR (fun _ _ h => h) (fun _ h => h.elim) ?aF ?aB ?aS ?aL ?_; (case aR => repeat (first | exact (Kd.C_below HR0.out HB.out) | (with_reducible refine Kd.C_alloc ?_ _) | (with_reducible refine Kd.C_drewN ?_ _) | (with_reducible refine Kd.C_drew ?_))); (case aB => exact (by repeat (first | (with_reducible first | exact HB.out | apply below_alloc | apply pw_below_drewN | apply below_drew1) | exact HB.out))); (case aF => exact (fun k_ hk => ⟨Kd.fresh' (Kd.R_lt (by (with_reducible repeat (first | apply Kd.R_alloc | apply Kd.R_drewN | apply Kd.R_drew)); exact HO326.out)) k_ hk, Kd.fresh' (Kd.R_lt (by (with_reducible repeat (first | apply Kd.R_alloc | apply Kd.R_drewN | apply Kd.R_drew)); exact HO329.out)) k_ hk⟩)); (case aO => exact ((Kd.R_nil _ _ _ _ (fun k_ => some k_ ≠ (v325 : Value).ownBlock ∧ some k_ ≠ (v328 : Value).ownBlock)))); (case aS => exact (below_size (by repeat (first | (with_reducible first | exact HB.out | apply below_alloc | apply pw_below_drewN | apply below_drew1) | exact HB.out)))); (case aL => have := LMc10.out; omega); intro v331 w26 ho hb hg hat; rw [← Ny330.out] at ho; have n0_ := Aside0.mk (Kd.R_after (Kd.R_apart_nil (by (with_reducible repeat (first | apply Kd.R_alloc | apply Kd.R_drewN | apply Kd.R_drew)); exact HO326.out)) hg hat); have n1_ := Aside0.mk (Kd.R_after (Kd.R_apart_nil (by (with_reducible repeat (first | apply Kd.R_alloc | apply Kd.R_drewN | apply Kd.R_drew)); exact HO329.out)) hg hat); have n2_ := Aside0.mk (hb); have n3_ := Aside0.mk (ho); clear HO326; clear HO329; clear HB; have HO326 := n0_; have HO329 := n1_; have HB := n2_; have HO332 := n3_; clear n0_ n1_ n2_ n3_; clear ho hb hg hat) | ((with_reducible refine gate_builtin (b := .append) (xs := #[.tmp 29, .tmp 30]) rfl ?_); (try (refine gate_guard (by rfl) ?_; dsimp only)); at_builtin; refine Kd.R_append_rows k34 (w0 := w) w.heap.size rfl (.tmp 29) (.tmp 30) 22 34 (.agg #[(.int .i64 0), (.int .i64 0), (.int .i64 0), (.int .i64 0), (.int .i64 0), (.int .i64 0)]) 48 rfl Try.underlying22 info34 rfl (by decide) (by omega) v331 y330 l1 _ _ _ (fun k_ => some k_ ≠ (v325 : Value).ownBlock ∧ some k_ ≠ (v328 : Value).ownBlock) (fun _ => False) rfl rfl ?aO ?aR (fun _ _ h => h) (fun _ h => h.elim) ?aF ?aB ?aS ?aL ?_; (case aR => repeat (first | exact (Kd.C_below HR1.out HB.out) | (with_reducible refine Kd.C_alloc ?_ _) | (with_reducible refine Kd.C_drewN ?_ _) | (with_reducible refine Kd.C_drew ?_))); (case aB => exact (by repeat (first | (with_reducible first | exact HB.out | apply below_alloc | apply pw_below_drewN | apply below_drew1) | exact HB.out))); (case aF => exact (fun k_ hk => ⟨Kd.fresh' (Kd.R_lt (by (with_reducible repeat (first | apply Kd.R_alloc | apply Kd.R_drewN | apply Kd.R_drew)); exact HO326.out)) k_ hk, Kd.fresh' (Kd.R_lt (by (with_reducible repeat (first | apply Kd.R_alloc | apply Kd.R_drewN | apply Kd.R_drew)); exact HO329.out)) k_ hk⟩)); (case aO => exact (by (with_reducible repeat (first | apply Kd.R_alloc | apply Kd.R_drewN | apply Kd.R_drew)); exact HO332.out)); (case aS => exact (below_size (by repeat (first | (with_reducible first | exact HB.out | apply below_alloc | apply pw_below_drewN | apply below_drew1) | exact HB.out)))); (case aL => have := LMc11.out; omega); intro v334 w27 ho hb hg hat; rw [← Ny333.out] at ho; have n0_ := Aside0.mk (Kd.R_after (ok := (fun k_ => some k_ ≠ (v328 : Value).ownBlock)) (by (with_reducible repeat (first | apply Kd.R_alloc | apply Kd.R_drewN | apply Kd.R_drew)); exact Kd.R_mono HO326.out (fun _ hk => ⟨hk.1.2, hk.2⟩)) hg hat); have n1_ := Aside0.mk (Kd.R_after (ok := (fun k_ => some k_ ≠ (v325 : Value).ownBlock)) (by (with_reducible repeat (first | apply Kd.R_alloc | apply Kd.R_drewN | apply Kd.R_drew)); exact Kd.R_mono HO329.out (fun _ hk => ⟨hk.1.2, hk.2⟩)) hg hat); have n2_ := Aside0.mk (hb); have n3_ := Aside0.mk (ho); clear HO326; clear HO329; clear HB; clear HO332; have HO326 := n0_; have HO329 := n1_; have HB := n2_; have HO335 := n3_; clear n0_ n1_ n2_ n3_; clear ho hb hg hat) | ((with_reducible refine gate_callee (f := 21) rfl ?_); refine goesL_ (some 32) rfl rfl Try.func21 (by kernel_rfl) rfl #[] rfl (by (try simp only [List.map_toArray, List.map_cons, List.map_nil]); first | done | rfl | (simp only [List.length_drop, List.length_take]; rfl)) ?_; (with_reducible refine (watchmanlaw07_ranked.calls kj4  true _ A12.out).mono ?_); rintro e w28 ⟨rfl, hb⟩; refine ⟨_, rfl, ?_⟩; have n0_ := Aside0.mk (Kd.R_below (by (with_reducible repeat (first | apply Kd.R_alloc | apply Kd.R_drewN | apply Kd.R_drew)); exact HO326.out) hb); have n1_ := Aside0.mk (Kd.R_below (by (with_reducible repeat (first | apply Kd.R_alloc | apply Kd.R_drewN | apply Kd.R_drew)); exact HO329.out) hb); have n2_ := Aside0.mk (Kd.R_below (by (with_reducible repeat (first | apply Kd.R_alloc | apply Kd.R_drewN | apply Kd.R_drew)); exact HO335.out) hb); have n3_ := Aside0.mk (below_step (by repeat (first | (with_reducible first | exact HB.out | apply below_alloc | apply pw_below_drewN | apply below_drew1) | exact HB.out)) hb); clear HO326; clear HO329; clear HO335; clear HB; have HO326 := n0_; have HO329 := n1_; have HO335 := n2_; have HB := n3_; clear n0_ n1_ n2_ n3_; (try clear hb); (try clear hb2); (try clear hk); (try clear hi); obtain ⟨Ao29, co29, eo29⟩ := Kd.R_slice HO326.out; subst eo29) | (go_at_call 10; (with_reducible refine (rank_Top.calls a3 _ _ t324 t337 _ ?side1 ?side2 A14.out).mono ?_); (case side1 => repeat (first | exact (Kd.R_reads' HO326.out).2.2 | (with_reducible refine Kd.C_alloc ?_ _) | (with_reducible refine Kd.C_drewN ?_ _) | (with_reducible refine Kd.C_drew ?_))); (case side2 => exact (Kd.R_reads' HO326.out).2.1); rintro e w30 ⟨v338, rfl, ho0, hb⟩; have n0_ := Aside0.mk (Kd.R_elder' (by (with_reducible repeat (first | apply Kd.R_alloc | apply Kd.R_drewN | apply Kd.R_drew)); exact HO326.out) (Kd.R_base ho0) hb); have n1_ := Aside0.mk (Kd.R_elder' (by (with_reducible repeat (first | apply Kd.R_alloc | apply Kd.R_drewN | apply Kd.R_drew)); exact HO329.out) (Kd.R_base ho0) hb); have n2_ := Aside0.mk (Kd.R_elder' (by (with_reducible repeat (first | apply Kd.R_alloc | apply Kd.R_drewN | apply Kd.R_drew)); exact HO335.out) (Kd.R_base ho0) hb); have n3_ := Aside0.mk (Kd.R_lower (Kd.R_new' (Kd.R_new' (Kd.R_new' ho0 (Kd.R_lt (by (with_reducible repeat (first | apply Kd.R_alloc | apply Kd.R_drewN | apply Kd.R_drew)); exact HO326.out))) (Kd.R_lt (by (with_reducible repeat (first | apply Kd.R_alloc | apply Kd.R_drewN | apply Kd.R_drew)); exact HO329.out))) (Kd.R_lt (by (with_reducible repeat (first | apply Kd.R_alloc | apply Kd.R_drewN | apply Kd.R_drew)); exact HO335.out))) (below_size (by repeat (first | (with_reducible first | exact HB.out | apply below_alloc | apply pw_below_drewN | apply below_drew1) | exact HB.out)))); have n4_ := Aside0.mk (below_step (by repeat (first | (with_reducible first | exact HB.out | apply below_alloc | apply pw_below_drewN | apply below_drew1) | exact HB.out)) hb); clear HO326; clear HO329; clear HO335; clear HB; have HO326 := n0_; have HO329 := n1_; have HO335 := n2_; have HO339 := n3_; have HB := n4_; clear n0_ n1_ n2_ n3_ n4_; (try clear hb); (try clear hb2); (try clear hk); (try clear hi); (try clear ho0)) | (go_at_call 10; (with_reducible refine (rank_Top.calls ji15 _ _ l0 t340 _ ?side1 ?side2 A16.out).mono ?_); (case side1 => repeat (first | exact (Kd.C_below HR0.out HB.out) | (with_reducible refine Kd.C_alloc ?_ _) | (with_reducible refine Kd.C_drewN ?_ _) | (with_reducible refine Kd.C_drew ?_))); (case side2 => exact HC0.out); rintro e w31 ⟨v341, rfl, ho0, hb⟩; have n0_ := Aside0.mk (Kd.R_elder' (by (with_reducible repeat (first | apply Kd.R_alloc | apply Kd.R_drewN | apply Kd.R_drew)); exact HO326.out) (Kd.R_base ho0) hb); have n1_ := Aside0.mk (Kd.R_elder' (by (with_reducible repeat (first | apply Kd.R_alloc | apply Kd.R_drewN | apply Kd.R_drew)); exact HO329.out) (Kd.R_base ho0) hb); have n2_ := Aside0.mk (Kd.R_elder' (by (with_reducible repeat (first | apply Kd.R_alloc | apply Kd.R_drewN | apply Kd.R_drew)); exact HO335.out) (Kd.R_base ho0) hb); have n3_ := Aside0.mk (Kd.R_elder' (by (with_reducible repeat (first | apply Kd.R_alloc | apply Kd.R_drewN | apply Kd.R_drew)); exact HO339.out) (Kd.R_base ho0) hb); have n4_ := Aside0.mk (Kd.R_lower (Kd.R_new' (Kd.R_new' (Kd.R_new' (Kd.R_new' ho0 (Kd.R_lt (by (with_reducible repeat (first | apply Kd.R_alloc | apply Kd.R_drewN | apply Kd.R_drew)); exact HO326.out))) (Kd.R_lt (by (with_reducible repeat (first | apply Kd.R_alloc | apply Kd.R_drewN | apply Kd.R_drew)); exact HO329.out))) (Kd.R_lt (by (with_reducible repeat (first | apply Kd.R_alloc | apply Kd.R_drewN | apply Kd.R_drew)); exact HO335.out))) (Kd.R_lt (by (with_reducible repeat (first | apply Kd.R_alloc | apply Kd.R_drewN | apply Kd.R_drew)); exact HO339.out))) (below_size (by repeat (first | (with_reducible first | exact HB.out | apply below_alloc | apply pw_below_drewN | apply below_drew1) | exact HB.out)))); have n5_ := Aside0.mk (below_step (by repeat (first | (with_reducible first | exact HB.out | apply below_alloc | apply pw_below_drewN | apply below_drew1) | exact HB.out)) hb); clear HO326; clear HO329; clear HO335; clear HO339; clear HB; have HO326 := n0_; have HO329 := n1_; have HO335 := n2_; have HO339 := n3_; have HO342 := n4_; have HB := n5_; clear n0_ n1_ n2_ n3_ n4_ n5_; (try clear hb); (try clear hb2); (try clear hk); (try clear hi); (try clear ho0); obtain ⟨Ao32, co32, eo32⟩ := Kd.R_slice HO339.out; subst eo32; obtain ⟨Ao33, co33, eo33⟩ := Kd.R_slice HO342.out; subst eo33) | (go_at_call 14; (with_reducible refine (watchmanref07_Same.calls kj4 _ _ t337 _ _ t340 true _ ?side1 ?side2 ?side3 ?side4 A17.out).mono ?_); (case side1 => repeat (first | exact (Kd.R_reads' HO339.out).2.2 | (with_reducible refine Kd.C_alloc ?_ _) | (with_reducible refine Kd.C_drewN ?_ _) | (with_reducible refine Kd.C_drew ?_))); (case side2 => exact (Kd.R_reads' HO339.out).2.1); (case side3 => repeat (first | exact (Kd.R_reads' HO342.out).2.2 | (with_reducible refine Kd.C_alloc ?_ _) | (with_reducible refine Kd.C_drewN ?_ _) | (with_reducible refine Kd.C_drew ?_))); (case side4 => exact (Kd.R_reads' HO342.out).2.1); rintro e w' ⟨rfl, ⟨nd, rfl⟩⟩; obtain ⟨Ao34, co34, eo34⟩ := Kd.R_slice HO329.out; subst eo34) | (go_at_call 13; (with_reducible refine (rank_Merge.calls _ _ t324 _ _ t327 t344 _ ?side1 ?side2 ?side3 ?side4 A19.out).mono ?_); (case side1 => repeat (first | exact (Kd.R_reads' HO326.out).2.2 | (with_reducible refine Kd.C_alloc ?_ _) | (with_reducible refine Kd.C_drewN ?_ _) | (with_reducible refine Kd.C_drew ?_))); (case side2 => exact (Kd.R_reads' HO326.out).2.1); (case side3 => repeat (first | exact (Kd.R_reads' HO329.out).2.2 | (with_reducible refine Kd.C_alloc ?_ _) | (with_reducible refine Kd.C_drewN ?_ _) | (with_reducible refine Kd.C_drew ?_))); (case side4 => exact (Kd.R_reads' HO329.out).2.1); rintro e w35 ⟨v345, rfl, ho0, hb⟩; have n0_ := Aside0.mk (Kd.R_elder' (by (with_reducible repeat (first | apply Kd.R_alloc | apply Kd.R_drewN | apply Kd.R_drew)); exact HO326.out) (Kd.R_base ho0) hb); have n1_ := Aside0.mk (Kd.R_elder' (by (with_reducible repeat (first | apply Kd.R_alloc | apply Kd.R_drewN | apply Kd.R_drew)); exact HO329.out) (Kd.R_base ho0) hb); have n2_ := Aside0.mk (Kd.R_elder' (by (with_reducible repeat (first | apply Kd.R_alloc | apply Kd.R_drewN | apply Kd.R_drew)); exact HO335.out) (Kd.R_base ho0) hb); have n3_ := Aside0.mk (Kd.R_elder' (by (with_reducible repeat (first | apply Kd.R_alloc | apply Kd.R_drewN | apply Kd.R_drew)); exact HO339.out) (Kd.R_base ho0) hb); have n4_ := Aside0.mk (Kd.R_elder' (by (with_reducible repeat (first | apply Kd.R_alloc | apply Kd.R_drewN | apply Kd.R_drew)); exact HO342.out) (Kd.R_base ho0) hb); have n5_ := Aside0.mk (Kd.R_lower (Kd.R_new' (Kd.R_new' (Kd.R_new' (Kd.R_new' (Kd.R_new' ho0 (Kd.R_lt (by (with_reducible repeat (first | apply Kd.R_alloc | apply Kd.R_drewN | apply Kd.R_drew)); exact HO326.out))) (Kd.R_lt (by (with_reducible repeat (first | apply Kd.R_alloc | apply Kd.R_drewN | apply Kd.R_drew)); exact HO329.out))) (Kd.R_lt (by (with_reducible repeat (first | apply Kd.R_alloc | apply Kd.R_drewN | apply Kd.R_drew)); exact HO335.out))) (Kd.R_lt (by (with_reducible repeat (first | apply Kd.R_alloc | apply Kd.R_drewN | apply Kd.R_drew)); exact HO339.out))) (Kd.R_lt (by (with_reducible repeat (first | apply Kd.R_alloc | apply Kd.R_drewN | apply Kd.R_drew)); exact HO342.out))) (below_size (by repeat (first | (with_reducible first | exact HB.out | apply below_alloc | apply pw_below_drewN | apply below_drew1) | exact HB.out)))); have n6_ := Aside0.mk (below_step (by repeat (first | (with_reducible first | exact HB.out | apply below_alloc | apply pw_below_drewN | apply below_drew1) | exact HB.out)) hb); clear HO326; clear HO329; clear HO335; clear HO339; clear HO342; clear HB; have HO326 := n0_; have HO329 := n1_; have HO335 := n2_; have HO339 := n3_; have HO342 := n4_; have HO346 := n5_; have HB := n6_; clear n0_ n1_ n2_ n3_ n4_ n5_ n6_; (try clear hb); (try clear hb2); (try clear hk); (try clear hi); (try clear ho0); obtain ⟨Ao36, co36, eo36⟩ := Kd.R_slice HO346.out; subst eo36) | (go_at_call 10; (with_reducible refine (rank_Top.calls a2 _ _ t344 t347 _ ?side1 ?side2 A20.out).mono ?_); (case side1 => repeat (first | exact (Kd.R_reads' HO346.out).2.2 | (with_reducible refine Kd.C_alloc ?_ _) | (with_reducible refine Kd.C_drewN ?_ _) | (with_reducible refine Kd.C_drew ?_))); (case side2 => exact (Kd.R_reads' HO346.out).2.1); rintro e w37 ⟨v348, rfl, ho0, hb⟩; have n0_ := Aside0.mk (Kd.R_elder' (by (with_reducible repeat (first | apply Kd.R_alloc | apply Kd.R_drewN | apply Kd.R_drew)); exact HO326.out) (Kd.R_base ho0) hb); have n1_ := Aside0.mk (Kd.R_elder' (by (with_reducible repeat (first | apply Kd.R_alloc | apply Kd.R_drewN | apply Kd.R_drew)); exact HO329.out) (Kd.R_base ho0) hb); have n2_ := Aside0.mk (Kd.R_elder' (by (with_reducible repeat (first | apply Kd.R_alloc | apply Kd.R_drewN | apply Kd.R_drew)); exact HO335.out) (Kd.R_base ho0) hb); have n3_ := Aside0.mk (Kd.R_elder' (by (with_reducible repeat (first | apply Kd.R_alloc | apply Kd.R_drewN | apply Kd.R_drew)); exact HO339.out) (Kd.R_base ho0) hb); have n4_ := Aside0.mk (Kd.R_elder' (by (with_reducible repeat (first | apply Kd.R_alloc | apply Kd.R_drewN | apply Kd.R_drew)); exact HO342.out) (Kd.R_base ho0) hb); have n5_ := Aside0.mk (Kd.R_elder' (by (with_reducible repeat (first | apply Kd.R_alloc | apply Kd.R_drewN | apply Kd.R_drew)); exact HO346.out) (Kd.R_base ho0) hb); have n6_ := Aside0.mk (Kd.R_lower (Kd.R_new' (Kd.R_new' (Kd.R_new' (Kd.R_new' (Kd.R_new' (Kd.R_new' ho0 (Kd.R_lt (by (with_reducible repeat (first | apply Kd.R_alloc | apply Kd.R_drewN | apply Kd.R_drew)); exact HO326.out))) (Kd.R_lt (by (with_reducible repeat (first | apply Kd.R_alloc | apply Kd.R_drewN | apply Kd.R_drew)); exact HO329.out))) (Kd.R_lt (by (with_reducible repeat (first | apply Kd.R_alloc | apply Kd.R_drewN | apply Kd.R_drew)); exact HO335.out))) (Kd.R_lt (by (with_reducible repeat (first | apply Kd.R_alloc | apply Kd.R_drewN | apply Kd.R_drew)); exact HO339.out))) (Kd.R_lt (by (with_reducible repeat (first | apply Kd.R_alloc | apply Kd.R_drewN | apply Kd.R_drew)); exact HO342.out))) (Kd.R_lt (by (with_reducible repeat (first | apply Kd.R_alloc | apply Kd.R_drewN | apply Kd.R_drew)); exact HO346.out))) (below_size (by repeat (first | (with_reducible first | exact HB.out | apply below_alloc | apply pw_below_drewN | apply below_drew1) | exact HB.out)))); have n7_ := Aside0.mk (below_step (by repeat (first | (with_reducible first | exact HB.out | apply below_alloc | apply pw_below_drewN | apply below_drew1) | exact HB.out)) hb); clear HO326; clear HO329; clear HO335; clear HO339; clear HO342; clear HO346; clear HB; have HO326 := n0_; have HO329 := n1_; have HO335 := n2_; have HO339 := n3_; have HO342 := n4_; have HO346 := n5_; have HO349 := n6_; have HB := n7_; clear n0_ n1_ n2_ n3_ n4_ n5_ n6_ n7_; (try clear hb); (try clear hb2); (try clear hk); (try clear hi); (try clear ho0); obtain ⟨Ao38, co38, eo38⟩ := Kd.R_slice HO335.out; subst eo38) | (go_at_call 10; (with_reducible refine (rank_Top.calls a2 _ _ y333 t350 _ ?side1 ?side2 A21.out).mono ?_); (case side1 => repeat (first | exact (Kd.R_reads' HO335.out).2.2 | (with_reducible refine Kd.C_alloc ?_ _) | (with_reducible refine Kd.C_drewN ?_ _) | (with_reducible refine Kd.C_drew ?_))); (case side2 => exact (Kd.R_reads' HO335.out).2.1); rintro e w39 ⟨v351, rfl, ho0, hb⟩; have n0_ := Aside0.mk (Kd.R_elder' (by (with_reducible repeat (first | apply Kd.R_alloc | apply Kd.R_drewN | apply Kd.R_drew)); exact HO326.out) (Kd.R_base ho0) hb); have n1_ := Aside0.mk (Kd.R_elder' (by (with_reducible repeat (first | apply Kd.R_alloc | apply Kd.R_drewN | apply Kd.R_drew)); exact HO329.out) (Kd.R_base ho0) hb); have n2_ := Aside0.mk (Kd.R_elder' (by (with_reducible repeat (first | apply Kd.R_alloc | apply Kd.R_drewN | apply Kd.R_drew)); exact HO335.out) (Kd.R_base ho0) hb); have n3_ := Aside0.mk (Kd.R_elder' (by (with_reducible repeat (first | apply Kd.R_alloc | apply Kd.R_drewN | apply Kd.R_drew)); exact HO339.out) (Kd.R_base ho0) hb); have n4_ := Aside0.mk (Kd.R_elder' (by (with_reducible repeat (first | apply Kd.R_alloc | apply Kd.R_drewN | apply Kd.R_drew)); exact HO342.out) (Kd.R_base ho0) hb); have n5_ := Aside0.mk (Kd.R_elder' (by (with_reducible repeat (first | apply Kd.R_alloc | apply Kd.R_drewN | apply Kd.R_drew)); exact HO346.out) (Kd.R_base ho0) hb); have n6_ := Aside0.mk (Kd.R_elder' (by (with_reducible repeat (first | apply Kd.R_alloc | apply Kd.R_drewN | apply Kd.R_drew)); exact HO349.out) (Kd.R_base ho0) hb); have n7_ := Aside0.mk (Kd.R_lower (Kd.R_new' (Kd.R_new' (Kd.R_new' (Kd.R_new' (Kd.R_new' (Kd.R_new' (Kd.R_new' ho0 (Kd.R_lt (by (with_reducible repeat (first | apply Kd.R_alloc | apply Kd.R_drewN | apply Kd.R_drew)); exact HO326.out))) (Kd.R_lt (by (with_reducible repeat (first | apply Kd.R_alloc | apply Kd.R_drewN | apply Kd.R_drew)); exact HO329.out))) (Kd.R_lt (by (with_reducible repeat (first | apply Kd.R_alloc | apply Kd.R_drewN | apply Kd.R_drew)); exact HO335.out))) (Kd.R_lt (by (with_reducible repeat (first | apply Kd.R_alloc | apply Kd.R_drewN | apply Kd.R_drew)); exact HO339.out))) (Kd.R_lt (by (with_reducible repeat (first | apply Kd.R_alloc | apply Kd.R_drewN | apply Kd.R_drew)); exact HO342.out))) (Kd.R_lt (by (with_reducible repeat (first | apply Kd.R_alloc | apply Kd.R_drewN | apply Kd.R_drew)); exact HO346.out))) (Kd.R_lt (by (with_reducible repeat (first | apply Kd.R_alloc | apply Kd.R_drewN | apply Kd.R_drew)); exact HO349.out))) (below_size (by repeat (first | (with_reducible first | exact HB.out | apply below_alloc | apply pw_below_drewN | apply below_drew1) | exact HB.out)))); have n8_ := Aside0.mk (below_step (by repeat (first | (with_reducible first | exact HB.out | apply below_alloc | apply pw_below_drewN | apply below_drew1) | exact HB.out)) hb); clear HO326; clear HO329; clear HO335; clear HO339; clear HO342; clear HO346; clear HO349; clear HB; have HO326 := n0_; have HO329 := n1_; have HO335 := n2_; have HO339 := n3_; have HO342 := n4_; have HO346 := n5_; have HO349 := n6_; have HO352 := n7_; have HB := n8_; clear n0_ n1_ n2_ n3_ n4_ n5_ n6_ n7_ n8_; (try clear hb); (try clear hb2); (try clear hk); (try clear hi); (try clear ho0); obtain ⟨Ao40, co40, eo40⟩ := Kd.R_slice HO349.out; subst eo40; obtain ⟨Ao41, co41, eo41⟩ := Kd.R_slice HO352.out; subst eo41) | (go_at_call 14; (with_reducible refine (watchmanref07_Same.calls kj4 _ _ t347 _ _ t350 true _ ?side1 ?side2 ?side3 ?side4 A22.out).mono ?_); (case side1 => repeat (first | exact (Kd.R_reads' HO349.out).2.2 | (with_reducible refine Kd.C_alloc ?_ _) | (with_reducible refine Kd.C_drewN ?_ _) | (with_reducible refine Kd.C_drew ?_))); (case side2 => exact (Kd.R_reads' HO349.out).2.1); (case side3 => repeat (first | exact (Kd.R_reads' HO352.out).2.2 | (with_reducible refine Kd.C_alloc ?_ _) | (with_reducible refine Kd.C_drewN ?_ _) | (with_reducible refine Kd.C_drew ?_))); (case side4 => exact (Kd.R_reads' HO352.out).2.1); rintro e w' ⟨rfl, ⟨nd, rfl⟩⟩))
                  go_ret
                  exact ⟨by first | rfl | (simp [errW_none, errW_some] <;> rfl) | (simp only [← hji15]; first | rfl | (simp [errW_none, errW_some] <;> rfl)) | (simp [*, errW_none, errW_some] <;> rfl), by repeat (first | (with_reducible first | exact HB.out | apply below_alloc | apply pw_below_drewN | apply below_drew1) | exact HB.out)⟩
                · replace c23 := Bool.eq_false_iff.mpr c23
                  subst c23
                  have H1 : (none) = some r := by rw [if_neg (show ¬ (false = true) by decide)] at H; exact H
                  clear H
                  have H := H1
                  clear H1
                  exact absurd H (by simp)
              · replace c18 := Bool.eq_false_iff.mpr c18
                subst c18
                have H1 : (none) = some r := by rw [if_neg (show ¬ (false = true) by decide)] at H; exact H
                clear H
                have H := H1
                clear H1
                exact absurd H (by simp)
            · replace c13 := Bool.eq_false_iff.mpr c13
              subst c13
              have H1 : (none) = some r := by rw [if_neg (show ¬ (false = true) by decide)] at H; exact H
              clear H
              have H := H1
              clear H1
              exact absurd H (by simp)
          · rw [if_neg c11] at H
            exact absurd H (by simp)
        · rw [if_neg c10] at H
          exact absurd H (by simp)
mutual
def watchmanlaw07_RankPlace.l0 : Nat → List (S34) → Int → Bool → Bool → Int → Int → Int → Option (Bool)
  | 0, _, _, _, _, _, _, _ => none
  | k + 1, x0, x5, x6, x7, x8, x355000, x355001 => if x8 < (x0.length : Int) then (if x7 = true then (watchmanlaw07_RankPlace.l0 k x0 x5 x6 true (wrap64 (x8 + 1)) x355000 x355001) else (if 0 ≤ x8 then (watchmanlaw07_RankPlace.l0 k x0 x5 x6 (((rd_T34 x0 x8).f0.f0) == x355000 && (((rd_T34 x0 x8).f0.f1) == x355001)) (wrap64 (x8 + 1)) x355000 x355001) else (none))) else ((rank_Sort.f x0).bind fun t358 => (if x6 = true then (if x5 < 0 then (watchmanlaw07_RankPlace.j1 k x5 x7 t358 true x355000 x355001) else (if x5 ≥ (t358.length : Int) then (watchmanlaw07_RankPlace.j1 k x5 x7 t358 true x355000 x355001) else (if 0 ≤ x5 then (if x5 < (t358.length : Int) then (watchmanlaw07_RankPlace.j1 k x5 x7 t358 (!(((rd_T34 t358 x5).f0.f0) == x355000) || (!(((rd_T34 t358 x5).f0.f1) == x355001))) x355000 x355001) else (none)) else (none)))) else ((watchmanlaw07_ranked.f k).bind fun t361 => (if t361 = true then (if x7 = true then (none) else (some (x5 == 0))) else (none)))))
def watchmanlaw07_RankPlace.j1 : Nat → Int → Bool → List (S34) → Bool → Int → Int → Option (Bool)
  | 0, _, _, _, _, _, _ => none
  | k + 1, x5, x7, x9, x65, x355000, x355001 => if x65 = true then (none) else (watchmanlaw07_RankPlace.l1 k x5 x7 x9 0 x355000 x355001)
def watchmanlaw07_RankPlace.l1 : Nat → Int → Bool → List (S34) → Int → Int → Int → Option (Bool)
  | 0, _, _, _, _, _, _ => none
  | k + 1, x5, x7, x9, x10, x355000, x355001 => if x10 < x5 then (if 0 ≤ x10 then (if x10 < (x9.length : Int) then (if (((rd_T34 x9 x10).f0.f0) == x355000 && (((rd_T34 x9 x10).f0.f1) == x355001)) = true then (none) else (watchmanlaw07_RankPlace.l1 k x5 x7 x9 (wrap64 (x10 + 1)) x355000 x355001)) else (none)) else (none)) else ((watchmanlaw07_ranked.f k).bind fun t364 => (if t364 = true then (some x7) else (none)))
end
def watchmanlaw07_RankPlace.f (k : Nat) (l0 : List (S34)) (a1_0 : Int) (a1_1 : Int) : Option (Bool) := if (l0.length : Int) > 60 then (some true) else ((rank_Place.f l0 a1_0 a1_1).bind fun bt355 => (watchmanlaw07_RankPlace.l0 k l0 bt355.1 bt355.2 false 0 a1_0 a1_1))
theorem watchmanlaw07_RankPlace.mono_l : ∀ k, (∀ y0 y1 y2 y3 y4 y5 y6, LeO (watchmanlaw07_RankPlace.l0 k y0 y1 y2 y3 y4 y5 y6) (watchmanlaw07_RankPlace.l0 (k + 1) y0 y1 y2 y3 y4 y5 y6)) ∧ (∀ y0 y1 y2 y3 y4 y5, LeO (watchmanlaw07_RankPlace.j1 k y0 y1 y2 y3 y4 y5) (watchmanlaw07_RankPlace.j1 (k + 1) y0 y1 y2 y3 y4 y5)) ∧ (∀ y0 y1 y2 y3 y4 y5, LeO (watchmanlaw07_RankPlace.l1 k y0 y1 y2 y3 y4 y5) (watchmanlaw07_RankPlace.l1 (k + 1) y0 y1 y2 y3 y4 y5))
  | 0 => ⟨fun _ _ _ _ _ _ _ r h => by simp [watchmanlaw07_RankPlace.l0] at h, fun _ _ _ _ _ _ r h => by simp [watchmanlaw07_RankPlace.j1] at h, fun _ _ _ _ _ _ r h => by simp [watchmanlaw07_RankPlace.l1] at h⟩
  | k + 1 => by
    obtain ⟨ih0, ih1, ih2⟩ := watchmanlaw07_RankPlace.mono_l k
    refine ⟨?_, ?_, ?_⟩
    · intro y0 y1 y2 y3 y4 y5 y6
      unfold watchmanlaw07_RankPlace.l0
      repeat' first
      | (with_reducible exact ih0 _ _ _ _ _ _ _)
      | (with_reducible exact ih1 _ _ _ _ _ _)
      | (with_reducible exact ih2 _ _ _ _ _ _)
      | (with_reducible exact watchmanlaw07_ranked.mono _)
      | (with_reducible exact LeO.refl _)
      | (with_reducible exact LeO.none _)
      | (with_reducible refine LeO.ite ?_ ?_)
      | (with_reducible refine LeO.bind ?_ (fun _ => ?_))
      | exact ih0 _ _ _ _ _ _ _
      | exact ih1 _ _ _ _ _ _
      | exact ih2 _ _ _ _ _ _
      | exact watchmanlaw07_ranked.mono _
      | exact LeO.none _
      | refine LeO.ite ?_ ?_
      | refine LeO.bind ?_ (fun _ => ?_)
    · intro y0 y1 y2 y3 y4 y5
      unfold watchmanlaw07_RankPlace.j1
      repeat' first
      | (with_reducible exact ih0 _ _ _ _ _ _ _)
      | (with_reducible exact ih1 _ _ _ _ _ _)
      | (with_reducible exact ih2 _ _ _ _ _ _)
      | (with_reducible exact watchmanlaw07_ranked.mono _)
      | (with_reducible exact LeO.refl _)
      | (with_reducible exact LeO.none _)
      | (with_reducible refine LeO.ite ?_ ?_)
      | (with_reducible refine LeO.bind ?_ (fun _ => ?_))
      | exact ih0 _ _ _ _ _ _ _
      | exact ih1 _ _ _ _ _ _
      | exact ih2 _ _ _ _ _ _
      | exact watchmanlaw07_ranked.mono _
      | exact LeO.none _
      | refine LeO.ite ?_ ?_
      | refine LeO.bind ?_ (fun _ => ?_)
    · intro y0 y1 y2 y3 y4 y5
      unfold watchmanlaw07_RankPlace.l1
      repeat' first
      | (with_reducible exact ih0 _ _ _ _ _ _ _)
      | (with_reducible exact ih1 _ _ _ _ _ _)
      | (with_reducible exact ih2 _ _ _ _ _ _)
      | (with_reducible exact watchmanlaw07_ranked.mono _)
      | (with_reducible exact LeO.refl _)
      | (with_reducible exact LeO.none _)
      | (with_reducible refine LeO.ite ?_ ?_)
      | (with_reducible refine LeO.bind ?_ (fun _ => ?_))
      | exact ih0 _ _ _ _ _ _ _
      | exact ih1 _ _ _ _ _ _
      | exact ih2 _ _ _ _ _ _
      | exact watchmanlaw07_ranked.mono _
      | exact LeO.none _
      | refine LeO.ite ?_ ?_
      | refine LeO.bind ?_ (fun _ => ?_)
theorem watchmanlaw07_RankPlace.mono : ∀ a0 a1 a2 k, LeO (watchmanlaw07_RankPlace.f k a0 a1 a2) (watchmanlaw07_RankPlace.f (k + 1) a0 a1 a2) := by
  intro a0 a1 a2 k
  obtain ⟨ih0, ih1, ih2⟩ := watchmanlaw07_RankPlace.mono_l k
  unfold watchmanlaw07_RankPlace.f
  repeat' first
      | (with_reducible exact ih0 _ _ _ _ _ _ _)
      | (with_reducible exact ih1 _ _ _ _ _ _)
      | (with_reducible exact ih2 _ _ _ _ _ _)
      | (with_reducible exact watchmanlaw07_ranked.mono _)
      | (with_reducible exact LeO.refl _)
      | (with_reducible exact LeO.none _)
      | (with_reducible refine LeO.ite ?_ ?_)
      | (with_reducible refine LeO.bind ?_ (fun _ => ?_))
      | exact ih0 _ _ _ _ _ _ _
      | exact ih1 _ _ _ _ _ _
      | exact ih2 _ _ _ _ _ _
      | exact watchmanlaw07_ranked.mono _
      | exact LeO.none _
      | refine LeO.ite ?_ ?_
      | refine LeO.bind ?_ (fun _ => ?_)
set_option maxHeartbeats 8000000 in
set_option maxRecDepth 100000 in
theorem watchmanlaw07_RankPlace.calls (k : Nat) (A0 : Option Addr) (c0 : Nat) (l0 : List (S34)) (a1_0 : Int) (a1_1 : Int) (r : Bool) (w : World) (hr0 : Kd.C k34 w A0 l0.length l0) (hc0 : l0.length ≤ c0) (h : watchmanlaw07_RankPlace.f k l0 a1_0 a1_1 = some r) :
    Calls Try.prog 7 #[.slice A0 l0.length c0, .agg #[.int .i64 a1_0, .int .i64 a1_1]] w fun e w' => e = .returned (.bool r) ∧ Below w.heap.size w w' := by
  have hu24 := Try.underlying24
  have HR0 := Aside0.mk hr0
  have HC0 := Aside0.mk hc0
  clear hr0 hc0
  have HB := Aside0.mk (Below.refl w.heap.size w)
  have H : (if (l0.length : Int) > 60 then (some true) else ((rank_Place.f l0 a1_0 a1_1).bind fun bt355 => (watchmanlaw07_RankPlace.l0 k l0 bt355.1 bt355.2 false 0 a1_0 a1_1))) = some r := h
  clear h
  by_cases c3 : (l0.length : Int) > 60
  · rw [if_pos c3] at H
    have c3b0 : decide (60 < (l0.length : Int)) = true := decide_eq_true c3
    have c3b1 : decide (60 < l0.length) = true := decide_eq_true (by omega)
    clear c3
    obtain rfl := Option.some.inj H
    go_enter Try.func7, Try.ntmps7
    go_wp2_with (first | ((with_reducible refine gate_dst (N := 3) rfl ?_); (try (refine gate_guard (by rfl) ?_; dsimp only)); refine box_event ?hg (N := 3) ?hd (cs := #[.int .i64 a1_0, .int .i64 a1_1]) (t := 24) ?hr ?_; (case hd => rfl); (case hg => rfl); (case hr => first | (go_simp; done) | (go_simp; rfl)); intro gb354 hg w4 hbox hb; have n0_ := Aside0.mk (below_step (by repeat (first | (with_reducible first | exact HB.out | apply below_alloc | apply pw_below_drewN | apply below_drew1) | exact HB.out)) hb); have n1_ := Aside0.mk (hbox); have n2_ := Aside0.mk ((by rw [hg]; exact (below_size (by repeat (first | (with_reducible first | exact HB.out | apply below_alloc | apply pw_below_drewN | apply below_drew1) | exact HB.out))) : w.heap.size ≤ gb354)); have n3_ := Aside0.mk ((by rw [hg]; exact (below_size (by repeat (first | (with_reducible first | exact HB.out | apply below_alloc | apply pw_below_drewN | apply below_drew1) | exact HB.out))) : w.heap.size ≤ gb354)); clear HB; have HB := n0_; have BK354 := n1_; have GW354 := n2_; have GE354 := n3_; clear n0_ n1_ n2_ n3_; clear hb hbox hg))
    repeat (go_quiet (first | ((with_reducible refine gate_dst (N := 3) rfl ?_); (try (refine gate_guard (by rfl) ?_; dsimp only)); refine box_event ?hg (N := 3) ?hd (cs := #[.int .i64 a1_0, .int .i64 a1_1]) (t := 24) ?hr ?_; (case hd => rfl); (case hg => rfl); (case hr => first | (go_simp; done) | (go_simp; rfl)); intro gb354 hg w4 hbox hb; have n0_ := Aside0.mk (below_step (by repeat (first | (with_reducible first | exact HB.out | apply below_alloc | apply pw_below_drewN | apply below_drew1) | exact HB.out)) hb); have n1_ := Aside0.mk (hbox); have n2_ := Aside0.mk ((by rw [hg]; exact (below_size (by repeat (first | (with_reducible first | exact HB.out | apply below_alloc | apply pw_below_drewN | apply below_drew1) | exact HB.out))) : w.heap.size ≤ gb354)); have n3_ := Aside0.mk ((by rw [hg]; exact (below_size (by repeat (first | (with_reducible first | exact HB.out | apply below_alloc | apply pw_below_drewN | apply below_drew1) | exact HB.out))) : w.heap.size ≤ gb354)); clear HB; have HB := n0_; have BK354 := n1_; have GW354 := n2_; have GE354 := n3_; clear n0_ n1_ n2_ n3_; clear hb hbox hg)); try go_wp2_with (first | ((with_reducible refine gate_dst (N := 3) rfl ?_); (try (refine gate_guard (by rfl) ?_; dsimp only)); refine box_event ?hg (N := 3) ?hd (cs := #[.int .i64 a1_0, .int .i64 a1_1]) (t := 24) ?hr ?_; (case hd => rfl); (case hg => rfl); (case hr => first | (go_simp; done) | (go_simp; rfl)); intro gb354 hg w4 hbox hb; have n0_ := Aside0.mk (below_step (by repeat (first | (with_reducible first | exact HB.out | apply below_alloc | apply pw_below_drewN | apply below_drew1) | exact HB.out)) hb); have n1_ := Aside0.mk (hbox); have n2_ := Aside0.mk ((by rw [hg]; exact (below_size (by repeat (first | (with_reducible first | exact HB.out | apply below_alloc | apply pw_below_drewN | apply below_drew1) | exact HB.out))) : w.heap.size ≤ gb354)); have n3_ := Aside0.mk ((by rw [hg]; exact (below_size (by repeat (first | (with_reducible first | exact HB.out | apply below_alloc | apply pw_below_drewN | apply below_drew1) | exact HB.out))) : w.heap.size ≤ gb354)); clear HB; have HB := n0_; have BK354 := n1_; have GW354 := n2_; have GE354 := n3_; clear n0_ n1_ n2_ n3_; clear hb hbox hg)))
    go_ret
    exact ⟨by first | rfl | (simp [errW_none, errW_some] <;> rfl) | (simp [*, errW_none, errW_some] <;> rfl), by repeat (first | (with_reducible first | exact HB.out | apply below_alloc | apply pw_below_drewN | apply below_drew1 | refine below_set ?_ GE354.out) | exact HB.out)⟩
  · rw [if_neg c3] at H
    have c3b0 : decide (60 < (l0.length : Int)) = false := decide_eq_false c3
    have c3b1 : decide (60 < l0.length) = false := decide_eq_false (by omega)
    clear c3
    replace H := Option.bind_eq_some_iff.mp H
    obtain ⟨⟨t355, t356⟩, A50, H⟩ := H
    replace H : (watchmanlaw07_RankPlace.l0 k l0 t355 t356 false 0 a1_0 a1_1) = some r := H
    have A5 := Aside0.mk A50
    clear A50
    have H' := Aside0.mk H
    clear H
    go_enter Try.func7, Try.ntmps7
    go_wp2_with (first | ((with_reducible refine gate_dst (N := 3) rfl ?_); (try (refine gate_guard (by rfl) ?_; dsimp only)); refine box_event ?hg (N := 3) ?hd (cs := #[.int .i64 a1_0, .int .i64 a1_1]) (t := 24) ?hr ?_; (case hd => rfl); (case hg => rfl); (case hr => first | (go_simp; done) | (go_simp; rfl)); intro gb354 hg w6 hbox hb; have n0_ := Aside0.mk (below_step (by repeat (first | (with_reducible first | exact HB.out | apply below_alloc | apply pw_below_drewN | apply below_drew1) | exact HB.out)) hb); have n1_ := Aside0.mk (hbox); have n2_ := Aside0.mk ((by rw [hg]; exact (below_size (by repeat (first | (with_reducible first | exact HB.out | apply below_alloc | apply pw_below_drewN | apply below_drew1) | exact HB.out))) : w.heap.size ≤ gb354)); have n3_ := Aside0.mk ((by rw [hg]; exact (below_size (by repeat (first | (with_reducible first | exact HB.out | apply below_alloc | apply pw_below_drewN | apply below_drew1) | exact HB.out))) : w.heap.size ≤ gb354)); clear HB; have HB := n0_; have BK354 := n1_; have GW354 := n2_; have GE354 := n3_; clear n0_ n1_ n2_ n3_; clear hb hbox hg; have hcz7_0 : w6.cell? ⟨gb354, 0, none⟩ = some (.int .i64 a1_0) := (blk_cell BK354.out 0).trans rfl; have hcz7_1 : w6.cell? ⟨gb354, 1, none⟩ = some (.int .i64 a1_1) := (blk_cell BK354.out 1).trans rfl; have hfz7_0 := blk_frozen BK354.out 0; have hfz7_1 := blk_frozen BK354.out 1) | (go_at_call 11; (with_reducible refine (rank_Place.calls _ _ l0 a1_0 a1_1 t355 t356 _ ?side1 ?side2 A5.out).mono ?_); (case side1 => repeat (first | exact (Kd.C_below HR0.out HB.out) | (with_reducible refine Kd.C_alloc ?_ _) | (with_reducible refine Kd.C_drewN ?_ _) | (with_reducible refine Kd.C_drew ?_))); (case side2 => exact HC0.out); rintro e w8 ⟨rfl, hb⟩; have n0_ := Aside0.mk (blk_below (g := gb354) (o := .cells #[.int .i64 a1_0, .int .i64 a1_1] 24 (0, 0)) (by (with_reducible repeat (first | refine blk_drewN ?_ _ | refine blk_drew ?_ | refine blk_alloc ?_ _)); exact BK354.out) hb); have n1_ := Aside0.mk (below_step (by repeat (first | (with_reducible first | exact HB.out | apply below_alloc | apply pw_below_drewN | apply below_drew1 | refine below_set ?_ GE354.out) | exact HB.out)) hb); clear BK354; clear HB; have BK354 := n0_; have HB := n1_; clear n0_ n1_; (try clear hb); (try clear hb2); (try clear hk); (try clear hi)))
    repeat (go_quiet (first | ((with_reducible refine gate_dst (N := 3) rfl ?_); (try (refine gate_guard (by rfl) ?_; dsimp only)); refine box_event ?hg (N := 3) ?hd (cs := #[.int .i64 a1_0, .int .i64 a1_1]) (t := 24) ?hr ?_; (case hd => rfl); (case hg => rfl); (case hr => first | (go_simp; done) | (go_simp; rfl)); intro gb354 hg w6 hbox hb; have n0_ := Aside0.mk (below_step (by repeat (first | (with_reducible first | exact HB.out | apply below_alloc | apply pw_below_drewN | apply below_drew1) | exact HB.out)) hb); have n1_ := Aside0.mk (hbox); have n2_ := Aside0.mk ((by rw [hg]; exact (below_size (by repeat (first | (with_reducible first | exact HB.out | apply below_alloc | apply pw_below_drewN | apply below_drew1) | exact HB.out))) : w.heap.size ≤ gb354)); have n3_ := Aside0.mk ((by rw [hg]; exact (below_size (by repeat (first | (with_reducible first | exact HB.out | apply below_alloc | apply pw_below_drewN | apply below_drew1) | exact HB.out))) : w.heap.size ≤ gb354)); clear HB; have HB := n0_; have BK354 := n1_; have GW354 := n2_; have GE354 := n3_; clear n0_ n1_ n2_ n3_; clear hb hbox hg; have hcz7_0 : w6.cell? ⟨gb354, 0, none⟩ = some (.int .i64 a1_0) := (blk_cell BK354.out 0).trans rfl; have hcz7_1 : w6.cell? ⟨gb354, 1, none⟩ = some (.int .i64 a1_1) := (blk_cell BK354.out 1).trans rfl; have hfz7_0 := blk_frozen BK354.out 0; have hfz7_1 := blk_frozen BK354.out 1) | (go_at_call 11; (with_reducible refine (rank_Place.calls _ _ l0 a1_0 a1_1 t355 t356 _ ?side1 ?side2 A5.out).mono ?_); (case side1 => repeat (first | exact (Kd.C_below HR0.out HB.out) | (with_reducible refine Kd.C_alloc ?_ _) | (with_reducible refine Kd.C_drewN ?_ _) | (with_reducible refine Kd.C_drew ?_))); (case side2 => exact HC0.out); rintro e w8 ⟨rfl, hb⟩; have n0_ := Aside0.mk (blk_below (g := gb354) (o := .cells #[.int .i64 a1_0, .int .i64 a1_1] 24 (0, 0)) (by (with_reducible repeat (first | refine blk_drewN ?_ _ | refine blk_drew ?_ | refine blk_alloc ?_ _)); exact BK354.out) hb); have n1_ := Aside0.mk (below_step (by repeat (first | (with_reducible first | exact HB.out | apply below_alloc | apply pw_below_drewN | apply below_drew1 | refine below_set ?_ GE354.out) | exact HB.out)) hb); clear BK354; clear HB; have BK354 := n0_; have HB := n1_; clear n0_ n1_; (try clear hb); (try clear hb2); (try clear hk); (try clear hi))); try go_wp2_with (first | ((with_reducible refine gate_dst (N := 3) rfl ?_); (try (refine gate_guard (by rfl) ?_; dsimp only)); refine box_event ?hg (N := 3) ?hd (cs := #[.int .i64 a1_0, .int .i64 a1_1]) (t := 24) ?hr ?_; (case hd => rfl); (case hg => rfl); (case hr => first | (go_simp; done) | (go_simp; rfl)); intro gb354 hg w6 hbox hb; have n0_ := Aside0.mk (below_step (by repeat (first | (with_reducible first | exact HB.out | apply below_alloc | apply pw_below_drewN | apply below_drew1) | exact HB.out)) hb); have n1_ := Aside0.mk (hbox); have n2_ := Aside0.mk ((by rw [hg]; exact (below_size (by repeat (first | (with_reducible first | exact HB.out | apply below_alloc | apply pw_below_drewN | apply below_drew1) | exact HB.out))) : w.heap.size ≤ gb354)); have n3_ := Aside0.mk ((by rw [hg]; exact (below_size (by repeat (first | (with_reducible first | exact HB.out | apply below_alloc | apply pw_below_drewN | apply below_drew1) | exact HB.out))) : w.heap.size ≤ gb354)); clear HB; have HB := n0_; have BK354 := n1_; have GW354 := n2_; have GE354 := n3_; clear n0_ n1_ n2_ n3_; clear hb hbox hg; have hcz7_0 : w6.cell? ⟨gb354, 0, none⟩ = some (.int .i64 a1_0) := (blk_cell BK354.out 0).trans rfl; have hcz7_1 : w6.cell? ⟨gb354, 1, none⟩ = some (.int .i64 a1_1) := (blk_cell BK354.out 1).trans rfl; have hfz7_0 := blk_frozen BK354.out 0; have hfz7_1 := blk_frozen BK354.out 1) | (go_at_call 11; (with_reducible refine (rank_Place.calls _ _ l0 a1_0 a1_1 t355 t356 _ ?side1 ?side2 A5.out).mono ?_); (case side1 => repeat (first | exact (Kd.C_below HR0.out HB.out) | (with_reducible refine Kd.C_alloc ?_ _) | (with_reducible refine Kd.C_drewN ?_ _) | (with_reducible refine Kd.C_drew ?_))); (case side2 => exact HC0.out); rintro e w8 ⟨rfl, hb⟩; have n0_ := Aside0.mk (blk_below (g := gb354) (o := .cells #[.int .i64 a1_0, .int .i64 a1_1] 24 (0, 0)) (by (with_reducible repeat (first | refine blk_drewN ?_ _ | refine blk_drew ?_ | refine blk_alloc ?_ _)); exact BK354.out) hb); have n1_ := Aside0.mk (below_step (by repeat (first | (with_reducible first | exact HB.out | apply below_alloc | apply pw_below_drewN | apply below_drew1 | refine below_set ?_ GE354.out) | exact HB.out)) hb); clear BK354; clear HB; have BK354 := n0_; have HB := n1_; clear n0_ n1_; (try clear hb); (try clear hb2); (try clear hk); (try clear hi))))
    go_loopg [7, 8] k (fun kq v7 v8 w' => ∃ (x7_1 : Bool) (x8_1 : Int), v7 = .bool x7_1 ∧ v8 = .int .i64 x8_1 ∧ Aside0 (watchmanlaw07_RankPlace.l0 kq l0 t355 t356 x7_1 x8_1 a1_0 a1_1 = some r) ∧ Aside0 (kq ≤ k) ∧ Aside0 (w'.heap[gb354]? = some (.cells #[.int .i64 a1_0, .int .i64 a1_1] 24 (0, 0))) ∧ Aside0 (Below w.heap.size w w'))
    case atStart => exact ⟨(false), (0), (by first | rfl | (simp; done) | (simp [*]; done)), (by first | rfl | (simp; done) | (simp [*]; done)), H', ⟨Nat.le_refl _⟩, ⟨by (with_reducible repeat (first | refine blk_drewN ?_ _ | refine blk_drew ?_ | refine blk_alloc ?_ _)); exact BK354.out⟩, ⟨by repeat (first | (with_reducible first | exact HB.out | apply below_alloc | apply pw_below_drewN | apply below_drew1 | refine below_set ?_ GE354.out) | exact HB.out)⟩⟩
    case round =>
      clear H'
      try clear p2
      try clear c3
      try clear c3b0
      try clear c3b1
      try clear c7
      try clear hcz7_0
      try clear hcz7_1
      try clear hfz7_0
      try clear hfz7_1
      obtain ⟨x7_1, x8_1, rfl, rfl, HA, HK1, BK354, HB⟩ := hrel
      cases gk with
      | zero => exact absurd HA.out (by simp [watchmanlaw07_RankPlace.l0])
      | succ k1 =>
        have H := HA.out
        clear HA
        simp only [watchmanlaw07_RankPlace.l0] at H
        by_cases c9 : x8_1 < (l0.length : Int)
        · rw [if_pos c9] at H
          have c9b0 : decide (x8_1 < (l0.length : Int)) = true := decide_eq_true c9
          clear c9
          by_cases c10 : x7_1 = true
          · subst c10
            have H1 : (watchmanlaw07_RankPlace.l0 k1 l0 t355 t356 true (wrap64 (x8_1 + 1)) a1_0 a1_1) = some r := by rw [if_pos rfl] at H; exact H
            clear H
            have H := H1
            clear H1
            have H' := Aside0.mk H
            clear H
            go_wp2
            repeat (go_quiet (fail); try go_wp2)
            go_roundg k1
            case measure => have := HK1.out; omega
            case rel => exact ⟨(true), (wrap64 (x8_1 + 1)), (by first | rfl | (simp; done) | (simp [*]; done)), (by first | rfl | (simp; done) | (simp [*]; done)), H', ⟨by have := HK1.out; omega⟩, ⟨by (with_reducible repeat (first | refine blk_drewN ?_ _ | refine blk_drew ?_ | refine blk_alloc ?_ _)); exact BK354.out⟩, ⟨by repeat (first | (with_reducible first | exact HB.out | apply below_alloc | apply pw_below_drewN | apply below_drew1 | refine below_set ?_ GE354.out) | exact HB.out)⟩⟩
          · replace c10 := Bool.eq_false_iff.mpr c10
            subst c10
            have H1 : (if 0 ≤ x8_1 then (watchmanlaw07_RankPlace.l0 k1 l0 t355 t356 (((rd_T34 l0 x8_1).f0.f0) == a1_0 && (((rd_T34 l0 x8_1).f0.f1) == a1_1)) (wrap64 (x8_1 + 1)) a1_0 a1_1) else (none)) = some r := by rw [if_neg (show ¬ (false = true) by decide)] at H; exact H
            clear H
            have H := H1
            clear H1
            by_cases c11 : 0 ≤ x8_1
            · rw [if_pos c11] at H
              have c11b0 : decide (0 ≤ x8_1) = true := decide_eq_true c11
              clear c11
              have H' := Aside0.mk H
              clear H
              have p357 : 0 ≤ (x8_1 : Int) := of_decide_eq_true (by first | (with_reducible assumption) | assumption)
              have q357 : x8_1 < (l0.length : Int) := of_decide_eq_true (by first | (with_reducible assumption) | assumption)
              obtain ⟨ad357, e357, hx357_0, hx357_1, hx357_2, hx357_3, hx357_4, hx357_5⟩ := at_T34 HR0.out x8_1 p357 q357
              cases e357
              replace hx357_0 := (HB.out.cell (World.block_lt_of_cell? w _ hx357_0)).trans hx357_0
              replace hx357_1 := (HB.out.cell (World.block_lt_of_cell? w _ hx357_1)).trans hx357_1
              replace hx357_2 := (HB.out.cell (World.block_lt_of_cell? w _ hx357_2)).trans hx357_2
              replace hx357_3 := (HB.out.cell (World.block_lt_of_cell? w _ hx357_3)).trans hx357_3
              replace hx357_4 := (HB.out.cell (World.block_lt_of_cell? w _ hx357_4)).trans hx357_4
              replace hx357_5 := (HB.out.cell (World.block_lt_of_cell? w _ hx357_5)).trans hx357_5
              replace p357 := eq_true p357
              replace q357 := eq_true q357
              have hcz12_0 : wr.cell? ⟨gb354, 0, none⟩ = some (.int .i64 a1_0) := (blk_cell BK354.out 0).trans rfl
              have hcz12_1 : wr.cell? ⟨gb354, 1, none⟩ = some (.int .i64 a1_1) := (blk_cell BK354.out 1).trans rfl
              have hfz12_0 := blk_frozen BK354.out 0
              have hfz12_1 := blk_frozen BK354.out 1
              go_wp2
              repeat (go_quiet (fail); try go_wp2)
              go_roundg k1
              case measure => have := HK1.out; omega
              case rel => exact ⟨((((rd_T34 l0 x8_1).f0.f0) == a1_0 && (((rd_T34 l0 x8_1).f0.f1) == a1_1))), (wrap64 (x8_1 + 1)), (by first | rfl | (simp; done) | (simp [*]; done)), (by first | rfl | (simp; done) | (simp [*]; done)), H', ⟨by have := HK1.out; omega⟩, ⟨by (with_reducible repeat (first | refine blk_drewN ?_ _ | refine blk_drew ?_ | refine blk_alloc ?_ _)); exact BK354.out⟩, ⟨by repeat (first | (with_reducible first | exact HB.out | apply below_alloc | apply pw_below_drewN | apply below_drew1 | refine below_set ?_ GE354.out) | exact HB.out)⟩⟩
            · rw [if_neg c11] at H
              exact absurd H (by simp)
        · rw [if_neg c9] at H
          have c9b0 : decide (x8_1 < (l0.length : Int)) = false := decide_eq_false c9
          clear c9
          replace H := Option.bind_eq_some_iff.mp H
          obtain ⟨t358, A130, H⟩ := H
          replace H : (if t356 = true then (if t355 < 0 then (watchmanlaw07_RankPlace.j1 k1 t355 x7_1 t358 true a1_0 a1_1) else (if t355 ≥ (t358.length : Int) then (watchmanlaw07_RankPlace.j1 k1 t355 x7_1 t358 true a1_0 a1_1) else (if 0 ≤ t355 then (if t355 < (t358.length : Int) then (watchmanlaw07_RankPlace.j1 k1 t355 x7_1 t358 (!(((rd_T34 t358 t355).f0.f0) == a1_0) || (!(((rd_T34 t358 t355).f0.f1) == a1_1))) a1_0 a1_1) else (none)) else (none)))) else ((watchmanlaw07_ranked.f k1).bind fun t361 => (if t361 = true then (if x7_1 = true then (none) else (some (t355 == 0))) else (none)))) = some r := H
          have A13 := Aside0.mk A130
          clear A130
          by_cases c14 : t356 = true
          · subst c14
            have H1 : (if t355 < 0 then (watchmanlaw07_RankPlace.j1 k1 t355 x7_1 t358 true a1_0 a1_1) else (if t355 ≥ (t358.length : Int) then (watchmanlaw07_RankPlace.j1 k1 t355 x7_1 t358 true a1_0 a1_1) else (if 0 ≤ t355 then (if t355 < (t358.length : Int) then (watchmanlaw07_RankPlace.j1 k1 t355 x7_1 t358 (!(((rd_T34 t358 t355).f0.f0) == a1_0) || (!(((rd_T34 t358 t355).f0.f1) == a1_1))) a1_0 a1_1) else (none)) else (none)))) = some r := by rw [if_pos rfl] at H; exact H
            clear H
            have H := H1
            clear H1
            have HC15 := Aside0.mk H
            clear H
            go_upto_region 12 with (first | (go_at_call 9; (with_reducible refine (rank_Sort.calls _ _ l0 t358 _ ?side1 ?side2 A13.out).mono ?_); (case side1 => repeat (first | exact (Kd.C_below HR0.out HB.out) | (with_reducible refine Kd.C_alloc ?_ _) | (with_reducible refine Kd.C_drewN ?_ _) | (with_reducible refine Kd.C_drew ?_))); (case side2 => exact HC0.out); rintro e w16 ⟨v359, rfl, ho0, hb⟩; have n0_ := Aside0.mk (Kd.R_lower ho0 (below_size (by repeat (first | (with_reducible first | exact HB.out | apply below_alloc | apply pw_below_drewN | apply below_drew1 | refine below_set ?_ GE354.out) | exact HB.out)))); have n1_ := Aside0.mk (blk_below (g := gb354) (o := .cells #[.int .i64 a1_0, .int .i64 a1_1] 24 (0, 0)) (by (with_reducible repeat (first | refine blk_drewN ?_ _ | refine blk_drew ?_ | refine blk_alloc ?_ _)); exact BK354.out) hb); have n2_ := Aside0.mk (below_step (by repeat (first | (with_reducible first | exact HB.out | apply below_alloc | apply pw_below_drewN | apply below_drew1 | refine below_set ?_ GE354.out) | exact HB.out)) hb); clear BK354; clear HB; have HO360 := n0_; have BK354 := n1_; have HB := n2_; clear n0_ n1_ n2_; (try clear hb); (try clear hb2); (try clear hk); (try clear hi); (try clear ho0)))
            repeat (go_quiet (first | (go_at_call 9; (with_reducible refine (rank_Sort.calls _ _ l0 t358 _ ?side1 ?side2 A13.out).mono ?_); (case side1 => repeat (first | exact (Kd.C_below HR0.out HB.out) | (with_reducible refine Kd.C_alloc ?_ _) | (with_reducible refine Kd.C_drewN ?_ _) | (with_reducible refine Kd.C_drew ?_))); (case side2 => exact HC0.out); rintro e w16 ⟨v359, rfl, ho0, hb⟩; have n0_ := Aside0.mk (Kd.R_lower ho0 (below_size (by repeat (first | (with_reducible first | exact HB.out | apply below_alloc | apply pw_below_drewN | apply below_drew1 | refine below_set ?_ GE354.out) | exact HB.out)))); have n1_ := Aside0.mk (blk_below (g := gb354) (o := .cells #[.int .i64 a1_0, .int .i64 a1_1] 24 (0, 0)) (by (with_reducible repeat (first | refine blk_drewN ?_ _ | refine blk_drew ?_ | refine blk_alloc ?_ _)); exact BK354.out) hb); have n2_ := Aside0.mk (below_step (by repeat (first | (with_reducible first | exact HB.out | apply below_alloc | apply pw_below_drewN | apply below_drew1 | refine below_set ?_ GE354.out) | exact HB.out)) hb); clear BK354; clear HB; have HO360 := n0_; have BK354 := n1_; have HB := n2_; clear n0_ n1_ n2_; (try clear hb); (try clear hb2); (try clear hk); (try clear hi); (try clear ho0))); go_upto_region 12 with (first | (go_at_call 9; (with_reducible refine (rank_Sort.calls _ _ l0 t358 _ ?side1 ?side2 A13.out).mono ?_); (case side1 => repeat (first | exact (Kd.C_below HR0.out HB.out) | (with_reducible refine Kd.C_alloc ?_ _) | (with_reducible refine Kd.C_drewN ?_ _) | (with_reducible refine Kd.C_drew ?_))); (case side2 => exact HC0.out); rintro e w16 ⟨v359, rfl, ho0, hb⟩; have n0_ := Aside0.mk (Kd.R_lower ho0 (below_size (by repeat (first | (with_reducible first | exact HB.out | apply below_alloc | apply pw_below_drewN | apply below_drew1 | refine below_set ?_ GE354.out) | exact HB.out)))); have n1_ := Aside0.mk (blk_below (g := gb354) (o := .cells #[.int .i64 a1_0, .int .i64 a1_1] 24 (0, 0)) (by (with_reducible repeat (first | refine blk_drewN ?_ _ | refine blk_drew ?_ | refine blk_alloc ?_ _)); exact BK354.out) hb); have n2_ := Aside0.mk (below_step (by repeat (first | (with_reducible first | exact HB.out | apply below_alloc | apply pw_below_drewN | apply below_drew1 | refine below_set ?_ GE354.out) | exact HB.out)) hb); clear BK354; clear HB; have HO360 := n0_; have BK354 := n1_; have HB := n2_; clear n0_ n1_ n2_; (try clear hb); (try clear hb2); (try clear hk); (try clear hi); (try clear ho0))))
            (try simp only [Act.put, List.setIfInBounds_toArray, List.set_cons_zero, List.set_cons_succ])
            go_cut [65] (fun v65 wc => ∃ (kq : Nat) (x65_14 : Bool), v65 = .bool x65_14 ∧ Aside0 (watchmanlaw07_RankPlace.j1 kq t355 x7_1 t358 x65_14 a1_0 a1_1 = some r) ∧ Aside0 (kq ≤ k1) ∧ Aside0 (Kd.R k34 34 wc w.heap.size (fun _ => True) v359 t358) ∧ Aside0 (wc.heap[gb354]? = some (.cells #[.int .i64 a1_0, .int .i64 a1_1] 24 (0, 0))) ∧ Aside0 (Below w.heap.size w wc))
            case first =>
              have H := HC15.out
              clear HC15
              by_cases c17 : t355 < 0
              · rw [if_pos c17] at H
                have c17b0 : decide (t355 < 0) = true := decide_eq_true c17
                clear c17
                (first | rw [c17b0] | (simp only [i64_w, i32_w]; rw [c17b0]) | skip)
                have H' := Aside0.mk H
                clear H
                go_wp2
                repeat (go_quiet (fail); try go_wp2)
                go_meet
                case rel => exact ⟨_, (true), (by first | rfl | (simp; done) | (simp [*]; done)), H', ⟨by have := HK1.out; first | omega | exact Nat.le_refl _⟩, ⟨by (with_reducible repeat (first | apply Kd.R_alloc | apply Kd.R_drewN | apply Kd.R_drew)); exact HO360.out⟩, ⟨by (with_reducible repeat (first | refine blk_drewN ?_ _ | refine blk_drew ?_ | refine blk_alloc ?_ _)); exact BK354.out⟩, ⟨by repeat (first | (with_reducible first | exact HB.out | apply below_alloc | apply pw_below_drewN | apply below_drew1 | refine below_set ?_ GE354.out) | exact HB.out)⟩⟩
              · rw [if_neg c17] at H
                have c17b0 : decide (t355 < 0) = false := decide_eq_false c17
                clear c17
                (first | rw [c17b0] | (simp only [i64_w, i32_w]; rw [c17b0]) | skip)
                by_cases c18 : t355 ≥ (t358.length : Int)
                · rw [if_pos c18] at H
                  have c18b0 : decide ((t358.length : Int) ≤ t355) = true := decide_eq_true c18
                  clear c18
                  have H' := Aside0.mk H
                  clear H
                  obtain ⟨Ao19, co19, eo19⟩ := Kd.R_slice HO360.out
                  subst eo19
                  go_wp2
                  repeat (go_quiet (fail); try go_wp2)
                  go_meet
                  case rel => exact ⟨_, (true), (by first | rfl | (simp; done) | (simp [*]; done)), H', ⟨by have := HK1.out; first | omega | exact Nat.le_refl _⟩, ⟨by (with_reducible repeat (first | apply Kd.R_alloc | apply Kd.R_drewN | apply Kd.R_drew)); exact HO360.out⟩, ⟨by (with_reducible repeat (first | refine blk_drewN ?_ _ | refine blk_drew ?_ | refine blk_alloc ?_ _)); exact BK354.out⟩, ⟨by repeat (first | (with_reducible first | exact HB.out | apply below_alloc | apply pw_below_drewN | apply below_drew1 | refine below_set ?_ GE354.out) | exact HB.out)⟩⟩
                · rw [if_neg c18] at H
                  have c18b0 : decide ((t358.length : Int) ≤ t355) = false := decide_eq_false c18
                  clear c18
                  by_cases c20 : 0 ≤ t355
                  · rw [if_pos c20] at H
                    have c20b0 : decide (0 ≤ t355) = true := decide_eq_true c20
                    clear c20
                    by_cases c21 : t355 < (t358.length : Int)
                    · rw [if_pos c21] at H
                      have c21b0 : decide (t355 < (t358.length : Int)) = true := decide_eq_true c21
                      clear c21
                      have H' := Aside0.mk H
                      clear H
                      obtain ⟨Ao22, co22, eo22⟩ := Kd.R_slice HO360.out
                      subst eo22
                      have p362 : 0 ≤ (t355 : Int) := of_decide_eq_true (by first | (with_reducible assumption) | assumption)
                      have q362 : t355 < (t358.length : Int) := of_decide_eq_true (by first | (with_reducible assumption) | assumption)
                      obtain ⟨ad362, e362, hx362_0, hx362_1, hx362_2, hx362_3, hx362_4, hx362_5⟩ := at_T34 (Kd.R_reads' HO360.out).2.2 t355 p362 q362
                      cases e362
                      replace p362 := eq_true p362
                      replace q362 := eq_true q362
                      have hcz23_0 : w16.cell? ⟨gb354, 0, none⟩ = some (.int .i64 a1_0) := (blk_cell BK354.out 0).trans rfl
                      have hcz23_1 : w16.cell? ⟨gb354, 1, none⟩ = some (.int .i64 a1_1) := (blk_cell BK354.out 1).trans rfl
                      have hfz23_0 := blk_frozen BK354.out 0
                      have hfz23_1 := blk_frozen BK354.out 1
                      go_wp2
                      repeat (go_quiet (fail); try go_wp2)
                      go_meet
                      case rel => exact ⟨_, ((!(((rd_T34 t358 t355).f0.f0) == a1_0) || (!(((rd_T34 t358 t355).f0.f1) == a1_1)))), (by first | rfl | (simp; done) | (simp [*]; done)), H', ⟨by have := HK1.out; first | omega | exact Nat.le_refl _⟩, ⟨by (with_reducible repeat (first | apply Kd.R_alloc | apply Kd.R_drewN | apply Kd.R_drew)); exact HO360.out⟩, ⟨by (with_reducible repeat (first | refine blk_drewN ?_ _ | refine blk_drew ?_ | refine blk_alloc ?_ _)); exact BK354.out⟩, ⟨by repeat (first | (with_reducible first | exact HB.out | apply below_alloc | apply pw_below_drewN | apply below_drew1 | refine below_set ?_ GE354.out) | exact HB.out)⟩⟩
                    · rw [if_neg c21] at H
                      exact absurd H (by simp)
                  · rw [if_neg c20] at H
                    exact absurd H (by simp)
            case rest =>
              clear HC15
              try clear c1
              try clear c2
              try clear p2
              try clear c3
              try clear c3b0
              try clear c3b1
              try clear p3
              try clear q3
              try clear hx3
              try clear p6
              try clear c7
              try clear c9
              try clear c9b0
              try clear c10
              try clear c11
              try clear c11b0
              try clear c14
              try clear c17
              try clear c17b0
              try clear c18
              try clear c18b0
              try clear c20
              try clear c20b0
              try clear c21
              try clear c21b0
              try clear hcz12_0
              try clear hcz12_1
              try clear hcz23_0
              try clear hcz23_1
              try clear hcz7_0
              try clear hcz7_1
              try clear hfz12_0
              try clear hfz12_1
              try clear hfz23_0
              try clear hfz23_1
              try clear hfz7_0
              try clear hfz7_1
              try clear hx357_0
              try clear hx357_1
              try clear hx357_2
              try clear hx357_3
              try clear hx357_4
              try clear hx357_5
              try clear hx362_0
              try clear hx362_1
              try clear hx362_2
              try clear hx362_3
              try clear hx362_4
              try clear hx362_5
              try clear p2
              try clear p357
              try clear p362
              try clear q357
              try clear q362
              obtain ⟨kq, x65_14, rfl, HA, HJ14, HO_9, BK354, HB⟩ := hcut
              cases kq with
              | zero => exact absurd HA.out (by simp [watchmanlaw07_RankPlace.j1])
              | succ kj14 =>
                have H := HA.out
                clear HA
                simp only [watchmanlaw07_RankPlace.j1] at H
                by_cases c24 : x65_14 = true
                · subst c24
                  have H1 : (none) = some r := by rw [if_pos rfl] at H; exact H
                  clear H
                  have H := H1
                  clear H1
                  exact absurd H (by simp)
                · replace c24 := Bool.eq_false_iff.mpr c24
                  subst c24
                  have H1 : (watchmanlaw07_RankPlace.l1 kj14 t355 x7_1 t358 0 a1_0 a1_1) = some r := by rw [if_neg (show ¬ (false = true) by decide)] at H; exact H
                  clear H
                  have H := H1
                  clear H1
                  have H' := Aside0.mk H
                  clear H
                  go_wp2
                  repeat (go_quiet (fail); try go_wp2)
                  go_loopg [10] kj14 (fun kq v10 w' => ∃ (x10_3 : Int), v10 = .int .i64 x10_3 ∧ Aside0 (watchmanlaw07_RankPlace.l1 kq t355 x7_1 t358 x10_3 a1_0 a1_1 = some r) ∧ Aside0 (kq ≤ kj14) ∧ Aside0 (Kd.R k34 34 w' w.heap.size (fun _ => True) v359 t358) ∧ Aside0 (w'.heap[gb354]? = some (.cells #[.int .i64 a1_0, .int .i64 a1_1] 24 (0, 0))) ∧ Aside0 (Below w.heap.size w w'))
                  case atStart => exact ⟨(0), (by first | rfl | (simp; done) | (simp [*]; done)), H', ⟨Nat.le_refl _⟩, ⟨by (with_reducible repeat (first | apply Kd.R_alloc | apply Kd.R_drewN | apply Kd.R_drew)); exact HO_9.out⟩, ⟨by (with_reducible repeat (first | refine blk_drewN ?_ _ | refine blk_drew ?_ | refine blk_alloc ?_ _)); exact BK354.out⟩, ⟨by repeat (first | (with_reducible first | exact HB.out | apply below_alloc | apply pw_below_drewN | apply below_drew1 | refine below_set ?_ GE354.out) | exact HB.out)⟩⟩
                  case round =>
                    clear H'
                    try clear c1
                    try clear c2
                    try clear p2
                    try clear c3
                    try clear c3b0
                    try clear c3b1
                    try clear p3
                    try clear q3
                    try clear hx3
                    try clear p6
                    try clear c7
                    try clear c9
                    try clear c9b0
                    try clear c10
                    try clear c11
                    try clear c11b0
                    try clear c14
                    try clear c17
                    try clear c17b0
                    try clear c18
                    try clear c18b0
                    try clear c20
                    try clear c20b0
                    try clear c21
                    try clear c21b0
                    try clear c24
                    try clear hcz12_0
                    try clear hcz12_1
                    try clear hcz23_0
                    try clear hcz23_1
                    try clear hcz7_0
                    try clear hcz7_1
                    try clear hfz12_0
                    try clear hfz12_1
                    try clear hfz23_0
                    try clear hfz23_1
                    try clear hfz7_0
                    try clear hfz7_1
                    try clear hx357_0
                    try clear hx357_1
                    try clear hx357_2
                    try clear hx357_3
                    try clear hx357_4
                    try clear hx357_5
                    try clear hx362_0
                    try clear hx362_1
                    try clear hx362_2
                    try clear hx362_3
                    try clear hx362_4
                    try clear hx362_5
                    try clear p2
                    try clear p3
                    try clear p357
                    try clear p362
                    try clear p6
                    try clear q3
                    try clear q357
                    try clear q362
                    obtain ⟨x10_3, rfl, HA, HK3, HO_9, BK354, HB⟩ := hrel
                    cases gk with
                    | zero => exact absurd HA.out (by simp [watchmanlaw07_RankPlace.l1])
                    | succ k3 =>
                      have H := HA.out
                      clear HA
                      simp only [watchmanlaw07_RankPlace.l1] at H
                      by_cases c25 : x10_3 < t355
                      · rw [if_pos c25] at H
                        have c25b0 : decide (x10_3 < t355) = true := decide_eq_true c25
                        clear c25
                        by_cases c26 : 0 ≤ x10_3
                        · rw [if_pos c26] at H
                          have c26b0 : decide (0 ≤ x10_3) = true := decide_eq_true c26
                          clear c26
                          by_cases c27 : x10_3 < (t358.length : Int)
                          · rw [if_pos c27] at H
                            have c27b0 : decide (x10_3 < (t358.length : Int)) = true := decide_eq_true c27
                            clear c27
                            by_cases c28 : (((rd_T34 t358 x10_3).f0.f0) == a1_0 && (((rd_T34 t358 x10_3).f0.f1) == a1_1)) = true
                            · rw [if_pos c28] at H
                              exact absurd H (by simp)
                            · rw [if_neg c28] at H
                              have c28b0 : (((rd_T34 t358 x10_3).f0.f0) == a1_0 && (((rd_T34 t358 x10_3).f0.f1) == a1_1)) = false := by simpa using c28
                              (try (have c28b1 : decide (((rd_T34 t358 x10_3).f0.f0) = a1_0 && (((rd_T34 t358 x10_3).f0.f1) == a1_1)) = false := by simpa using c28))
                              (try (have c28b2 : (((rd_T34 t358 x10_3).f0.f0) == a1_0 && (((rd_T34 t358 x10_3).f0.f1) == a1_1)) = false := by simpa using c28))
                              (try (have c28b3 : ¬ (((rd_T34 t358 x10_3).f0.f0) = a1_0 && (((rd_T34 t358 x10_3).f0.f1) == a1_1)) := by simpa using c28))
                              clear c28
                              have H' := Aside0.mk H
                              clear H
                              obtain ⟨Ao29, co29, eo29⟩ := Kd.R_slice HO_9.out
                              subst eo29
                              have p363 : 0 ≤ (x10_3 : Int) := of_decide_eq_true (by first | (with_reducible assumption) | assumption)
                              have q363 : x10_3 < (t358.length : Int) := of_decide_eq_true (by first | (with_reducible assumption) | assumption)
                              obtain ⟨ad363, e363, hx363_0, hx363_1, hx363_2, hx363_3, hx363_4, hx363_5⟩ := at_T34 (Kd.R_reads' HO_9.out).2.2 x10_3 p363 q363
                              cases e363
                              replace p363 := eq_true p363
                              replace q363 := eq_true q363
                              have hcz30_0 : wr.cell? ⟨gb354, 0, none⟩ = some (.int .i64 a1_0) := (blk_cell BK354.out 0).trans rfl
                              have hcz30_1 : wr.cell? ⟨gb354, 1, none⟩ = some (.int .i64 a1_1) := (blk_cell BK354.out 1).trans rfl
                              have hfz30_0 := blk_frozen BK354.out 0
                              have hfz30_1 := blk_frozen BK354.out 1
                              go_wp2
                              repeat (go_quiet (fail); try go_wp2)
                              go_roundg k3
                              case measure => have := HK1.out; have := HJ14.out; have := HK3.out; omega
                              case rel => exact ⟨(wrap64 (x10_3 + 1)), (by first | rfl | (simp; done) | (simp [*]; done)), H', ⟨by have := HK1.out; have := HJ14.out; have := HK3.out; omega⟩, ⟨by (with_reducible repeat (first | apply Kd.R_alloc | apply Kd.R_drewN | apply Kd.R_drew)); exact HO_9.out⟩, ⟨by (with_reducible repeat (first | refine blk_drewN ?_ _ | refine blk_drew ?_ | refine blk_alloc ?_ _)); exact BK354.out⟩, ⟨by repeat (first | (with_reducible first | exact HB.out | apply below_alloc | apply pw_below_drewN | apply below_drew1 | refine below_set ?_ GE354.out) | exact HB.out)⟩⟩
                          · rw [if_neg c27] at H
                            exact absurd H (by simp)
                        · rw [if_neg c26] at H
                          exact absurd H (by simp)
                      · rw [if_neg c25] at H
                        have c25b0 : decide (x10_3 < t355) = false := decide_eq_false c25
                        clear c25
                        replace H := Option.bind_eq_some_iff.mp H
                        obtain ⟨t364, A310, H⟩ := H
                        replace H : (if t364 = true then (some x7_1) else (none)) = some r := H
                        have A31 := Aside0.mk A310
                        clear A310
                        by_cases c32 : t364 = true
                        · subst c32
                          have H1 : (some x7_1) = some r := by rw [if_pos rfl] at H; exact H
                          clear H
                          have H := H1
                          clear H1
                          obtain rfl := Option.some.inj H
                          go_wp2_with (first | (go_at_call 21; (with_reducible refine (watchmanlaw07_ranked.calls k3  true _ A31.out).mono ?_); rintro e w33 ⟨rfl, hb⟩; have n0_ := Aside0.mk (Kd.R_below (by (with_reducible repeat (first | apply Kd.R_alloc | apply Kd.R_drewN | apply Kd.R_drew)); exact HO_9.out) hb); have n1_ := Aside0.mk (blk_below (g := gb354) (o := .cells #[.int .i64 a1_0, .int .i64 a1_1] 24 (0, 0)) (by (with_reducible repeat (first | refine blk_drewN ?_ _ | refine blk_drew ?_ | refine blk_alloc ?_ _)); exact BK354.out) hb); have n2_ := Aside0.mk (below_step (by repeat (first | (with_reducible first | exact HB.out | apply below_alloc | apply pw_below_drewN | apply below_drew1 | refine below_set ?_ GE354.out) | exact HB.out)) hb); clear HO_9; clear BK354; clear HB; have HO_9 := n0_; have BK354 := n1_; have HB := n2_; clear n0_ n1_ n2_; (try clear hb); (try clear hb2); (try clear hk); (try clear hi)))
                          repeat (go_quiet (first | (go_at_call 21; (with_reducible refine (watchmanlaw07_ranked.calls k3  true _ A31.out).mono ?_); rintro e w33 ⟨rfl, hb⟩; have n0_ := Aside0.mk (Kd.R_below (by (with_reducible repeat (first | apply Kd.R_alloc | apply Kd.R_drewN | apply Kd.R_drew)); exact HO_9.out) hb); have n1_ := Aside0.mk (blk_below (g := gb354) (o := .cells #[.int .i64 a1_0, .int .i64 a1_1] 24 (0, 0)) (by (with_reducible repeat (first | refine blk_drewN ?_ _ | refine blk_drew ?_ | refine blk_alloc ?_ _)); exact BK354.out) hb); have n2_ := Aside0.mk (below_step (by repeat (first | (with_reducible first | exact HB.out | apply below_alloc | apply pw_below_drewN | apply below_drew1 | refine below_set ?_ GE354.out) | exact HB.out)) hb); clear HO_9; clear BK354; clear HB; have HO_9 := n0_; have BK354 := n1_; have HB := n2_; clear n0_ n1_ n2_; (try clear hb); (try clear hb2); (try clear hk); (try clear hi))); try go_wp2_with (first | (go_at_call 21; (with_reducible refine (watchmanlaw07_ranked.calls k3  true _ A31.out).mono ?_); rintro e w33 ⟨rfl, hb⟩; have n0_ := Aside0.mk (Kd.R_below (by (with_reducible repeat (first | apply Kd.R_alloc | apply Kd.R_drewN | apply Kd.R_drew)); exact HO_9.out) hb); have n1_ := Aside0.mk (blk_below (g := gb354) (o := .cells #[.int .i64 a1_0, .int .i64 a1_1] 24 (0, 0)) (by (with_reducible repeat (first | refine blk_drewN ?_ _ | refine blk_drew ?_ | refine blk_alloc ?_ _)); exact BK354.out) hb); have n2_ := Aside0.mk (below_step (by repeat (first | (with_reducible first | exact HB.out | apply below_alloc | apply pw_below_drewN | apply below_drew1 | refine below_set ?_ GE354.out) | exact HB.out)) hb); clear HO_9; clear BK354; clear HB; have HO_9 := n0_; have BK354 := n1_; have HB := n2_; clear n0_ n1_ n2_; (try clear hb); (try clear hb2); (try clear hk); (try clear hi))))
                          go_ret
                          exact ⟨by first | rfl | (simp [errW_none, errW_some] <;> rfl) | (simp [*, errW_none, errW_some] <;> rfl), by repeat (first | (with_reducible first | exact HB.out | apply below_alloc | apply pw_below_drewN | apply below_drew1 | refine below_set ?_ GE354.out) | exact HB.out)⟩
                        · replace c32 := Bool.eq_false_iff.mpr c32
                          subst c32
                          have H1 : (none) = some r := by rw [if_neg (show ¬ (false = true) by decide)] at H; exact H
                          clear H
                          have H := H1
                          clear H1
                          exact absurd H (by simp)
          · replace c14 := Bool.eq_false_iff.mpr c14
            subst c14
            have H1 : ((watchmanlaw07_ranked.f k1).bind fun t361 => (if t361 = true then (if x7_1 = true then (none) else (some (t355 == 0))) else (none))) = some r := by rw [if_neg (show ¬ (false = true) by decide)] at H; exact H
            clear H
            have H := H1
            clear H1
            replace H := Option.bind_eq_some_iff.mp H
            obtain ⟨t361, A340, H⟩ := H
            replace H : (if t361 = true then (if x7_1 = true then (none) else (some (t355 == 0))) else (none)) = some r := H
            have A34 := Aside0.mk A340
            clear A340
            by_cases c35 : t361 = true
            · subst c35
              have H1 : (if x7_1 = true then (none) else (some (t355 == 0))) = some r := by rw [if_pos rfl] at H; exact H
              clear H
              have H := H1
              clear H1
              by_cases c36 : x7_1 = true
              · subst c36
                have H1 : (none) = some r := by rw [if_pos rfl] at H; exact H
                clear H
                have H := H1
                clear H1
                exact absurd H (by simp)
              · replace c36 := Bool.eq_false_iff.mpr c36
                subst c36
                have H1 : (some (t355 == 0)) = some r := by rw [if_neg (show ¬ (false = true) by decide)] at H; exact H
                clear H
                have H := H1
                clear H1
                obtain rfl := Option.some.inj H
                go_wp2_with (first | (go_at_call 9; (with_reducible refine (rank_Sort.calls _ _ l0 t358 _ ?side1 ?side2 A13.out).mono ?_); (case side1 => repeat (first | exact (Kd.C_below HR0.out HB.out) | (with_reducible refine Kd.C_alloc ?_ _) | (with_reducible refine Kd.C_drewN ?_ _) | (with_reducible refine Kd.C_drew ?_))); (case side2 => exact HC0.out); rintro e w37 ⟨v359, rfl, ho0, hb⟩; have n0_ := Aside0.mk (Kd.R_lower ho0 (below_size (by repeat (first | (with_reducible first | exact HB.out | apply below_alloc | apply pw_below_drewN | apply below_drew1 | refine below_set ?_ GE354.out) | exact HB.out)))); have n1_ := Aside0.mk (blk_below (g := gb354) (o := .cells #[.int .i64 a1_0, .int .i64 a1_1] 24 (0, 0)) (by (with_reducible repeat (first | refine blk_drewN ?_ _ | refine blk_drew ?_ | refine blk_alloc ?_ _)); exact BK354.out) hb); have n2_ := Aside0.mk (below_step (by repeat (first | (with_reducible first | exact HB.out | apply below_alloc | apply pw_below_drewN | apply below_drew1 | refine below_set ?_ GE354.out) | exact HB.out)) hb); clear BK354; clear HB; have HO360 := n0_; have BK354 := n1_; have HB := n2_; clear n0_ n1_ n2_; (try clear hb); (try clear hb2); (try clear hk); (try clear hi); (try clear ho0)) | (go_at_call 21; (with_reducible refine (watchmanlaw07_ranked.calls k1  true _ A34.out).mono ?_); rintro e w38 ⟨rfl, hb⟩; have n0_ := Aside0.mk (Kd.R_below (by (with_reducible repeat (first | apply Kd.R_alloc | apply Kd.R_drewN | apply Kd.R_drew)); exact HO360.out) hb); have n1_ := Aside0.mk (blk_below (g := gb354) (o := .cells #[.int .i64 a1_0, .int .i64 a1_1] 24 (0, 0)) (by (with_reducible repeat (first | refine blk_drewN ?_ _ | refine blk_drew ?_ | refine blk_alloc ?_ _)); exact BK354.out) hb); have n2_ := Aside0.mk (below_step (by repeat (first | (with_reducible first | exact HB.out | apply below_alloc | apply pw_below_drewN | apply below_drew1 | refine below_set ?_ GE354.out) | exact HB.out)) hb); clear HO360; clear BK354; clear HB; have HO360 := n0_; have BK354 := n1_; have HB := n2_; clear n0_ n1_ n2_; (try clear hb); (try clear hb2); (try clear hk); (try clear hi)))
                repeat (go_quiet (first | (go_at_call 9; (with_reducible refine (rank_Sort.calls _ _ l0 t358 _ ?side1 ?side2 A13.out).mono ?_); (case side1 => repeat (first | exact (Kd.C_below HR0.out HB.out) | (with_reducible refine Kd.C_alloc ?_ _) | (with_reducible refine Kd.C_drewN ?_ _) | (with_reducible refine Kd.C_drew ?_))); (case side2 => exact HC0.out); rintro e w37 ⟨v359, rfl, ho0, hb⟩; have n0_ := Aside0.mk (Kd.R_lower ho0 (below_size (by repeat (first | (with_reducible first | exact HB.out | apply below_alloc | apply pw_below_drewN | apply below_drew1 | refine below_set ?_ GE354.out) | exact HB.out)))); have n1_ := Aside0.mk (blk_below (g := gb354) (o := .cells #[.int .i64 a1_0, .int .i64 a1_1] 24 (0, 0)) (by (with_reducible repeat (first | refine blk_drewN ?_ _ | refine blk_drew ?_ | refine blk_alloc ?_ _)); exact BK354.out) hb); have n2_ := Aside0.mk (below_step (by repeat (first | (with_reducible first | exact HB.out | apply below_alloc | apply pw_below_drewN | apply below_drew1 | refine below_set ?_ GE354.out) | exact HB.out)) hb); clear BK354; clear HB; have HO360 := n0_; have BK354 := n1_; have HB := n2_; clear n0_ n1_ n2_; (try clear hb); (try clear hb2); (try clear hk); (try clear hi); (try clear ho0)) | (go_at_call 21; (with_reducible refine (watchmanlaw07_ranked.calls k1  true _ A34.out).mono ?_); rintro e w38 ⟨rfl, hb⟩; have n0_ := Aside0.mk (Kd.R_below (by (with_reducible repeat (first | apply Kd.R_alloc | apply Kd.R_drewN | apply Kd.R_drew)); exact HO360.out) hb); have n1_ := Aside0.mk (blk_below (g := gb354) (o := .cells #[.int .i64 a1_0, .int .i64 a1_1] 24 (0, 0)) (by (with_reducible repeat (first | refine blk_drewN ?_ _ | refine blk_drew ?_ | refine blk_alloc ?_ _)); exact BK354.out) hb); have n2_ := Aside0.mk (below_step (by repeat (first | (with_reducible first | exact HB.out | apply below_alloc | apply pw_below_drewN | apply below_drew1 | refine below_set ?_ GE354.out) | exact HB.out)) hb); clear HO360; clear BK354; clear HB; have HO360 := n0_; have BK354 := n1_; have HB := n2_; clear n0_ n1_ n2_; (try clear hb); (try clear hb2); (try clear hk); (try clear hi))); try go_wp2_with (first | (go_at_call 9; (with_reducible refine (rank_Sort.calls _ _ l0 t358 _ ?side1 ?side2 A13.out).mono ?_); (case side1 => repeat (first | exact (Kd.C_below HR0.out HB.out) | (with_reducible refine Kd.C_alloc ?_ _) | (with_reducible refine Kd.C_drewN ?_ _) | (with_reducible refine Kd.C_drew ?_))); (case side2 => exact HC0.out); rintro e w37 ⟨v359, rfl, ho0, hb⟩; have n0_ := Aside0.mk (Kd.R_lower ho0 (below_size (by repeat (first | (with_reducible first | exact HB.out | apply below_alloc | apply pw_below_drewN | apply below_drew1 | refine below_set ?_ GE354.out) | exact HB.out)))); have n1_ := Aside0.mk (blk_below (g := gb354) (o := .cells #[.int .i64 a1_0, .int .i64 a1_1] 24 (0, 0)) (by (with_reducible repeat (first | refine blk_drewN ?_ _ | refine blk_drew ?_ | refine blk_alloc ?_ _)); exact BK354.out) hb); have n2_ := Aside0.mk (below_step (by repeat (first | (with_reducible first | exact HB.out | apply below_alloc | apply pw_below_drewN | apply below_drew1 | refine below_set ?_ GE354.out) | exact HB.out)) hb); clear BK354; clear HB; have HO360 := n0_; have BK354 := n1_; have HB := n2_; clear n0_ n1_ n2_; (try clear hb); (try clear hb2); (try clear hk); (try clear hi); (try clear ho0)) | (go_at_call 21; (with_reducible refine (watchmanlaw07_ranked.calls k1  true _ A34.out).mono ?_); rintro e w38 ⟨rfl, hb⟩; have n0_ := Aside0.mk (Kd.R_below (by (with_reducible repeat (first | apply Kd.R_alloc | apply Kd.R_drewN | apply Kd.R_drew)); exact HO360.out) hb); have n1_ := Aside0.mk (blk_below (g := gb354) (o := .cells #[.int .i64 a1_0, .int .i64 a1_1] 24 (0, 0)) (by (with_reducible repeat (first | refine blk_drewN ?_ _ | refine blk_drew ?_ | refine blk_alloc ?_ _)); exact BK354.out) hb); have n2_ := Aside0.mk (below_step (by repeat (first | (with_reducible first | exact HB.out | apply below_alloc | apply pw_below_drewN | apply below_drew1 | refine below_set ?_ GE354.out) | exact HB.out)) hb); clear HO360; clear BK354; clear HB; have HO360 := n0_; have BK354 := n1_; have HB := n2_; clear n0_ n1_ n2_; (try clear hb); (try clear hb2); (try clear hk); (try clear hi))))
                go_ret
                exact ⟨by first | rfl | (simp [errW_none, errW_some] <;> rfl) | (simp [*, errW_none, errW_some] <;> rfl), by repeat (first | (with_reducible first | exact HB.out | apply below_alloc | apply pw_below_drewN | apply below_drew1 | refine below_set ?_ GE354.out) | exact HB.out)⟩
            · replace c35 := Bool.eq_false_iff.mpr c35
              subst c35
              have H1 : (none) = some r := by rw [if_neg (show ¬ (false = true) by decide)] at H; exact H
              clear H
              have H := H1
              clear H1
              exact absurd H (by simp)
end Go.Proofs.Ytjjagjehaoidbaa.P

set_option linter.unusedVariables false
set_option linter.unusedSimpArgs false
namespace Go.Proofs.Ytjjagjehaoidbaa.P
open Go.RowKit Go.Proofs.YtjjagjehaoidbaaW.PrintWords Go.Proofs.YtjjagjehaoidbaaW.PrintLast Go.Proofs.YtjjagjehaoidbaaW.PrintMore
theorem ranked_ev : Ev (fun k => watchmanlaw07_ranked.f k) true := Ev.of (fun k => watchmanlaw07_ranked.mono k) (k := 30) (by kernel_rfl)
theorem rankA_congr {l m : List Alarm} (h : l.Perm m) : rankA l = rankA m := rankA_unique ((rankA_perm l).trans h) (rankA_ranked l)
theorem rankA_of_ranked {l : List Alarm} (h : Ranked l) : rankA l = l := (rankA_unique (.refl l) h).symm
theorem rankA_take (L : List Alarm) (n : Nat) : rankA ((rankA L).take n) = (rankA L).take n := rankA_of_ranked (List.Pairwise.take (rankA_ranked L))
theorem rankA_cons (x : Alarm) (l : List Alarm) : rankA (x :: l) = insA x (rankA l) :=
  (rankA_unique ((insA_perm x _).trans ((rankA_perm l).cons x)) (insA_ranked x _ (rankA_ranked l))).symm
theorem insPos_count (x : Alarm) : ∀ l, Ranked l → insPos x l = l.countP fun y => decide (cmpA y x ≤ 0)
  | [], _ => rfl
  | y :: l, h => by
    obtain ⟨h1, h2⟩ := List.pairwise_cons.1 h
    have ih := insPos_count x l h2
    simp only [insPos, List.countP_cons]
    by_cases q : cmpA y x ≤ 0
    · simp only [if_pos q, decide_eq_true q, if_true, ih]
    · simp only [if_neg q, decide_eq_false q, Bool.false_eq_true, if_false, Nat.add_zero]
      symm
      rw [List.countP_eq_zero]
      intro z hz hzx
      exact q (cmpA_le_trans (h1 z hz) (of_decide_eq_true hzx))
theorem take_insA (x : Alarm) (l : List Alarm) (n : Nat) (h : n ≤ insPos x l) : (insA x l).take n = l.take n := by
  rw [insA_eq, List.take_append_of_le_length (by have := insPos_le x l; simp; omega), List.take_take, Nat.min_eq_left h]
theorem top_extra (S : List Alarm) (n : Nat) : ∀ X : List Alarm, (∀ x ∈ X, n ≤ S.countP fun y => decide (cmpA y x ≤ 0)) → (rankA (X ++ S)).take n = (rankA S).take n
  | [], _ => rfl
  | x :: X, h => by
    have ih := top_extra S n X (fun y hy => h y (List.mem_cons_of_mem _ hy))
    rw [List.cons_append, rankA_cons, take_insA _ _ _ ?_, ih]
    rw [insPos_count x _ (rankA_ranked _), (rankA_perm (X ++ S)).countP_eq, List.countP_append]
    have := h x (by simp)
    omega
theorem drop_count (A B : List Alarm) (n : Nat) (hA : Ranked A) (x : Alarm) (hx : x ∈ A.drop n) : n ≤ (A.take n ++ B).countP fun y => decide (cmpA y x ≤ 0) := by
  have hlen : n ≤ A.length := by
    rcases Nat.lt_or_ge n A.length with h | h
    · omega
    · rw [List.drop_eq_nil_of_le h] at hx; cases hx
  have hp : Ranked (A.take n ++ A.drop n) := by rw [List.take_append_drop]; exact hA
  have hle := (List.pairwise_append.1 hp).2.2
  have : (A.take n).countP (fun y => decide (cmpA y x ≤ 0)) = (A.take n).length := List.countP_eq_length.2 fun y hy => decide_eq_true (hle y hy x hx)
  rw [List.countP_append, this, List.length_take]
  omega
theorem top_both (L M : List Alarm) (n : Nat) : (rankA ((rankA L).take n ++ (rankA M).take n)).take n = (rankA (L ++ M)).take n := by
  have hp : (L ++ M).Perm (((rankA L).drop n ++ (rankA M).drop n) ++ ((rankA L).take n ++ (rankA M).take n)) := by
    have h1 : L.Perm ((rankA L).drop n ++ (rankA L).take n) := (rankA_perm L).symm.trans (by
      have := List.perm_append_comm (l₁ := (rankA L).take n) (l₂ := (rankA L).drop n)
      rwa [List.take_append_drop] at this)
    have h2 : M.Perm ((rankA M).drop n ++ (rankA M).take n) := (rankA_perm M).symm.trans (by
      have := List.perm_append_comm (l₁ := (rankA M).take n) (l₂ := (rankA M).drop n)
      rwa [List.take_append_drop] at this)
    refine (h1.append h2).trans ?_
    rw [List.append_assoc, List.append_assoc]
    refine List.Perm.append_left _ ?_
    rw [← List.append_assoc, ← List.append_assoc]
    exact List.perm_append_comm.append_right _
  rw [rankA_congr hp]
  refine (top_extra _ n _ fun x hx => ?_).symm
  rcases List.mem_append.1 hx with hx | hx
  · exact drop_count _ _ n (rankA_ranked L) x hx
  · have := drop_count (rankA M) ((rankA L).take n) n (rankA_ranked M) x hx
    rw [List.countP_append] at this ⊢
    omega
theorem top_j0 (L M : List Alarm) (n m : Int) (hL : L.length ≤ 40) (hM : M.length ≤ 40) : Ev (fun k => watchmanlaw07_RankTop.j0 k (L.map ofA) (M.map ofA) n m false) true := by
  have bL : L.length ≤ 1000000 := by omega
  have bM : M.length ≤ 1000000 := by omega
  have rL : (rankA L).length = L.length := rankA_length L
  have rM : (rankA M).length = M.length := rankA_length M
  have tL : ((rankA L).take n.toNat).length ≤ 40 := by rw [List.length_take]; omega
  have tM : ((rankA M).take n.toNat).length ≤ 40 := by rw [List.length_take]; omega
  have mm : (mn n m).toNat = min m.toNat n.toNat := by unfold mn; split <;> omega
  have lM : (rankA ((rankA L).take n.toNat ++ (rankA M).take n.toNat)).length ≤ 80 := by rw [rankA_length, List.length_append]; omega
  refine Ev.succ ?_
  simp only [watchmanlaw07_RankTop.j0, Bool.false_eq_true, if_false, top_f L n bL, top_f M n bM, Option.bind_some, List.nil_append,
    if_pos (show ([] : List S34).length + (L.map ofA).length < 2932031007402 by simp; omega), if_pos (show (L.map ofA).length + (M.map ofA).length < 2932031007402 by simp; omega)]
  refine Ev.bind ranked_ev ?_
  simp only [if_true, top_f _ m (show ((rankA L).take n.toNat).length ≤ 1000000 by omega), top_f L (mn n m) bL, Option.bind_some, rankA_take, List.take_take, mm]
  refine Ev.bind (same_refl ((rankA L).take (min m.toNat n.toNat)) (by rw [List.length_take]; omega)) ?_
  simp only [if_true, merge_f _ _ (show ((rankA L).take n.toNat).length + ((rankA M).take n.toNat).length ≤ 1000000 by omega), Option.bind_some, ← List.map_append,
    top_f _ n (show (rankA ((rankA L).take n.toNat ++ (rankA M).take n.toNat)).length ≤ 1000000 by omega), top_f (L ++ M) n (show (L ++ M).length ≤ 1000000 by simp; omega), rankA_of_ranked (rankA_ranked _), top_both]
  refine Ev.bind (same_refl ((rankA (L ++ M)).take n.toNat) (by rw [List.length_take, rankA_length, List.length_append]; omega)) ?_
  simp only [if_true]
  rw [decide_eq_true (show (((((rankA L).take n.toNat).map ofA).length : Int) ≤ ((L.map ofA).length : Int)) by simp; omega)]
  exact Ev.now _
theorem rtop_true (l0 l1 : List S34) (a2 a3 : Int) : ∃ k, watchmanlaw07_RankTop.f k l0 l1 a2 a3 = some true := by
  obtain ⟨L, rfl⟩ : ∃ L : List Alarm, l0 = L.map ofA := ⟨l0.map toA, (map_ofA l0).symm⟩
  obtain ⟨M, rfl⟩ : ∃ L : List Alarm, l1 = L.map ofA := ⟨l1.map toA, (map_ofA l1).symm⟩
  have out : ∀ (x y : List S34), Ev (fun k => watchmanlaw07_RankTop.j0 k x y a2 a3 true) true := fun x y => by
    refine Ev.succ ?_
    simp only [watchmanlaw07_RankTop.j0, if_true]
    exact Ev.now _
  refine Ev.rounds (g := fun k => watchmanlaw07_RankTop.f k (L.map ofA) (M.map ofA) a2 a3) ?_
  unfold watchmanlaw07_RankTop.f
  by_cases h : ((L.map ofA).length : Int) > 40
  · simp only [if_pos h]; exact out _ _
  · simp only [if_neg h]
    by_cases h' : ((M.map ofA).length : Int) > 40
    · simp only [decide_eq_true h']; exact out _ _
    · simp only [decide_eq_false h']
      exact top_j0 L M a2 a3 (by simp at h; omega) (by simp at h'; omega)
theorem eqS_iff (x y : Alarm) : ((x.spot.bed == y.spot.bed && (x.spot.channel == y.spot.channel)) && (x.phase == y.phase && (x.prio == y.prio && (x.since == y.since && (x.until_ == y.until_))))) = decide (x = y) := by
  rcases x with ⟨⟨a1, a2⟩, a3, a4, a5, a6⟩
  rcases y with ⟨⟨b1, b2⟩, b3, b4, b5, b6⟩
  rw [Bool.eq_iff_iff]
  simp only [Bool.and_eq_true, beq_iff_eq, decide_eq_true_eq, Alarm.mk.injEq, Spot.mk.injEq]
noncomputable def many (a : Alarm) (l : List Alarm) : Nat := l.countP fun x => decide (x = a)
theorem many_take (a : Alarm) (l : List Alarm) (i : Nat) (h : i < l.length) : many a (l.take (i + 1)) = many a (l.take i) + if l[i] = a then 1 else 0 := by
  unfold many
  rw [List.take_succ_eq_append_getElem h, List.countP_append, List.countP_singleton]
  by_cases q : l[i] = a
  · rw [decide_eq_true q, if_pos q, if_pos rfl]
  · rw [decide_eq_false q, if_neg q]; rfl
theorem many_le (a : Alarm) (l : List Alarm) (i : Nat) : many a (l.take i) ≤ i := Nat.le_trans (List.countP_le_length) (by rw [List.length_take]; omega)
theorem sorts_l1 (L : List Alarm) (a : Alarm) (hL : L.length ≤ 60) : ∀ (d i : Nat), L.length - i = d → i ≤ L.length →
    Ev (fun k => watchmanlaw07_RankSorts.l1 k (L.map ofA) ((rankA L).map ofA) (many a L : Nat) (many a (L.take i) : Nat) i a.spot.bed a.spot.channel a.phase a.prio a.since a.until_) true
  | d, i, hd, hi => by
    have bL : L.length ≤ 1000000 := by omega
    have lL : (L.map ofA).length = L.length := List.length_map _
    have lR : ((rankA L).map ofA).length = L.length := by rw [List.length_map, rankA_length]
    refine Ev.succ ?_
    by_cases hlt : i < L.length
    · have e : L.getD (i : Int).toNat default = L[i] := by simp [hlt]
      have hm := many_take a L i hlt
      have hle := many_le a L i
      simp only [watchmanlaw07_RankSorts.l1, if_pos (show (i : Int) < ((L.map ofA).length : Int) by omega), if_pos (show (0 : Int) ≤ (i : Int) by omega), rdL, e, ofA, eqS_iff, decide_eq_true_eq]
      have w1 : wrap64 ((i : Int) + 1) = ((i + 1 : Nat) : Int) := w64 (by omega)
      have w2 : wrap64 ((many a (L.take i) : Nat) + 1 : Int) = ((many a (L.take i) + 1 : Nat) : Int) := w64 (by omega)
      cases d with
      | zero => omega
      | succ d =>
        have ih := sorts_l1 L a hL d (i + 1) (by omega) (by omega)
        by_cases q : L[i] = a
        · rw [if_pos q] at hm
          simp only [if_pos q, w1, w2]
          rw [← hm]; exact ih
        · rw [if_neg q] at hm
          simp only [if_neg q, w1]
          rw [hm] at ih; exact ih
    · have he : L.take i = L := List.take_of_length_le (by omega)
      simp only [watchmanlaw07_RankSorts.l1, if_neg (show ¬ (i : Int) < ((L.map ofA).length : Int) by omega), he]
      refine Ev.bind ranked_ev ?_
      simp only [if_true, if_pos (show (((rankA L).map ofA).length : Int) = ((L.map ofA).length : Int) by omega), sort_f (rankA L) (show (rankA L).length ≤ 1000000 by rw [rankA_length]; omega), Option.bind_some, rankA_of_ranked (rankA_ranked L)]
      exact Ev.bind (same_refl (rankA L) (by rw [rankA_length]; omega)) (Ev.now _)
theorem sorts_l0 (L : List Alarm) (a : Alarm) (hL : L.length ≤ 60) : ∀ (d i : Nat), L.length - i = d → i ≤ L.length →
    Ev (fun k => watchmanlaw07_RankSorts.l0 k (L.map ofA) ((rankA L).map ofA) (many a ((rankA L).take i) : Nat) 0 i a.spot.bed a.spot.channel a.phase a.prio a.since a.until_) true
  | d, i, hd, hi => by
    have lR : ((rankA L).map ofA).length = L.length := by rw [List.length_map, rankA_length]
    have rR : (rankA L).length = L.length := rankA_length L
    refine Ev.succ ?_
    by_cases hlt : i < L.length
    · have hltR : i < (rankA L).length := by omega
      have e : (rankA L).getD (i : Int).toNat default = (rankA L)[i] := by simp [hltR]
      have hm := many_take a (rankA L) i hltR
      have hle := many_le a (rankA L) i
      have w1 : wrap64 ((i : Int) + 1) = ((i + 1 : Nat) : Int) := w64 (by omega)
      have w2 : wrap64 ((many a ((rankA L).take i) : Nat) + 1 : Int) = ((many a ((rankA L).take i) + 1 : Nat) : Int) := w64 (by omega)
      cases d with
      | zero => omega
      | succ d =>
        have ih := sorts_l0 L a hL d (i + 1) (by omega) (by omega)
        have body : Ev (fun k => watchmanlaw07_RankSorts.j1 k (L.map ofA) ((rankA L).map ofA) (many a ((rankA L).take i) : Nat) 0 i false a.spot.bed a.spot.channel a.phase a.prio a.since a.until_) true := by
          refine Ev.succ ?_
          simp only [watchmanlaw07_RankSorts.j1, Bool.false_eq_true, if_false, if_pos (show (0 : Int) ≤ (i : Int) by omega), if_pos (show (i : Int) < (((rankA L).map ofA).length : Int) by omega), rdL, e, ofA, eqS_iff, decide_eq_true_eq]
          by_cases q : (rankA L)[i] = a
          · rw [if_pos q] at hm
            simp only [if_pos q, w1, w2]
            rw [← hm]; exact ih
          · rw [if_neg q] at hm
            simp only [if_neg q, w1]
            rw [hm] at ih; exact ih
        by_cases h0 : (i : Int) > 0
        · have wm : wrap64 ((i : Int) - 1) = ((i - 1 : Nat) : Int) := by rw [w64 (by omega)]; omega
          have hlt1 : i - 1 < (rankA L).length := by omega
          have e1 : (rankA L).getD ((i - 1 : Nat) : Int).toNat default = (rankA L)[i - 1] := by simp [hlt1]
          have hc : cmpA (rankA L)[i - 1] (rankA L)[i] ≤ 0 := List.pairwise_iff_getElem.1 (rankA_ranked L) (i - 1) i hlt1 hltR (by omega)
          simp only [watchmanlaw07_RankSorts.l0, if_pos (show (i : Int) < (((rankA L).map ofA).length : Int) by omega), if_pos h0, wm, if_pos (show (0 : Int) ≤ ((i - 1 : Nat) : Int) by omega), if_pos (show ((i - 1 : Nat) : Int) < (((rankA L).map ofA).length : Int) by omega), if_pos (show (0 : Int) ≤ (i : Int) by omega), rdL, e, e1, rank_Compare.f, Option.bind_some]
          have e2 : ∀ x : Alarm, toA ⟨⟨(ofA x).f0.f0, (ofA x).f0.f1⟩, (ofA x).f1, (ofA x).f2, (ofA x).f3, (ofA x).f4⟩ = x := fun x => rfl
          simp only [e2, decide_eq_false (show ¬ cmpA (rankA L)[i - 1] (rankA L)[i] > 0 by omega)]
          exact body
        · simp only [watchmanlaw07_RankSorts.l0, if_pos (show (i : Int) < (((rankA L).map ofA).length : Int) by omega), if_neg h0]
          exact body
    · have he : (rankA L).take i = rankA L := List.take_of_length_le (by omega)
      have hp : many a (rankA L) = many a L := (rankA_perm L).countP_eq _
      simp only [watchmanlaw07_RankSorts.l0, if_neg (show ¬ (i : Int) < (((rankA L).map ofA).length : Int) by omega), he, hp]
      exact sorts_l1 L a hL _ 0 rfl (Nat.zero_le _)
theorem sorts_true (l0 : List S34) (a0 a1 a2 a3 a4 a5 : Int) : ∃ k, watchmanlaw07_RankSorts.f k l0 a0 a1 a2 a3 a4 a5 = some true := by
  obtain ⟨L, rfl⟩ : ∃ L : List Alarm, l0 = L.map ofA := ⟨l0.map toA, (map_ofA l0).symm⟩
  refine Ev.rounds (g := fun k => watchmanlaw07_RankSorts.f k (L.map ofA) a0 a1 a2 a3 a4 a5) ?_
  unfold watchmanlaw07_RankSorts.f
  by_cases h : ((L.map ofA).length : Int) > 60
  · simp only [if_pos h]; exact Ev.now _
  · have hL : L.length ≤ 60 := by simp at h; omega
    simp only [if_neg h, sort_f L (show L.length ≤ 1000000 by omega), Option.bind_some]
    exact sorts_l0 L ⟨⟨a0, a1⟩, a2, a3, a4, a5⟩ hL _ 0 rfl (Nat.zero_le _)
theorem idx_hit (s : Spot) : ∀ l : List Alarm, ∀ h : idxS s l < l.length, eqSB l[idxS s l] s = true
  | [], h => by simp [idxS] at h
  | x :: l, h => by
    cases hx : eqSB x s with
    | true => simp [idxS, hx]
    | false =>
      have hl : idxS s l < l.length := by simpa [idxS, hx] using h
      have := idx_hit s l hl
      simpa [idxS, hx] using this
theorem idx_miss (s : Spot) : ∀ (l : List Alarm) (i : Nat) (h : i < l.length), i < idxS s l → eqSB l[i] s = false
  | x :: l, i, h, hi => by
    cases hx : eqSB x s with
    | true => simp [idxS, hx] at hi
    | false =>
      cases i with
      | zero => exact hx
      | succ i => exact idx_miss s l i (by simpa using h) (by simpa [idxS, hx] using hi)
theorem idx_any (s : Spot) (l : List Alarm) : decide (idxS s l < l.length) = l.any fun x => eqSB x s := by
  induction l with
  | nil => rfl
  | cons x l ih =>
    cases hx : eqSB x s with
    | true => simp [idxS, hx]
    | false => simpa [idxS, hx] using ih
theorem any_rank (s : Spot) (L : List Alarm) : ((rankA L).any fun x => eqSB x s) = L.any fun x => eqSB x s := by
  rw [Bool.eq_iff_iff, List.any_eq_true, List.any_eq_true]
  exact ⟨fun ⟨x, h1, h2⟩ => ⟨x, (rankA_perm L).mem_iff.1 h1, h2⟩, fun ⟨x, h1, h2⟩ => ⟨x, (rankA_perm L).mem_iff.2 h1, h2⟩⟩
theorem place_l1 (L : List Alarm) (s : Spot) (hL : L.length ≤ 60) (hidx : idxS s (rankA L) < (rankA L).length) : ∀ (d i : Nat), idxS s (rankA L) - i = d → i ≤ idxS s (rankA L) →
    Ev (fun k => watchmanlaw07_RankPlace.l1 k (idxS s (rankA L) : Nat) true ((rankA L).map ofA) i s.bed s.channel) true
  | d, i, hd, hi => by
    have lR : ((rankA L).map ofA).length = (rankA L).length := List.length_map _
    have rR : (rankA L).length = L.length := rankA_length L
    refine Ev.succ ?_
    by_cases hlt : i < idxS s (rankA L)
    · have hltR : i < (rankA L).length := by omega
      have e : (rankA L).getD (i : Int).toNat default = (rankA L)[i] := by simp [hltR]
      have hx' : (((rankA L)[i].spot.bed == s.bed) && ((rankA L)[i].spot.channel == s.channel)) = false := idx_miss s (rankA L) i hltR hlt
      simp only [watchmanlaw07_RankPlace.l1, if_pos (show (i : Int) < ((idxS s (rankA L) : Nat) : Int) by omega), if_pos (show (0 : Int) ≤ (i : Int) by omega), if_pos (show (i : Int) < (((rankA L).map ofA).length : Int) by omega), rdL, e, ofA, hx', Bool.false_eq_true, if_false, w64 (show -9223372036854775808 ≤ (i : Int) + 1 ∧ (i : Int) + 1 ≤ 9223372036854775807 by omega)]
      cases d with
      | zero => omega
      | succ d => exact place_l1 L s hL hidx d (i + 1) (by omega) (by omega)
    · simp only [watchmanlaw07_RankPlace.l1, if_neg (show ¬ (i : Int) < ((idxS s (rankA L) : Nat) : Int) by omega)]
      refine Ev.bind ranked_ev ?_
      simp only [if_true]
      exact Ev.now _
theorem place_l0' (L : List Alarm) (s : Spot) (hL : L.length ≤ 60) : ∀ (d i : Nat) (b : Bool), L.length - i = d → i ≤ L.length → b = ((L.take i).any fun x => eqSB x s) →
    Ev (fun k => watchmanlaw07_RankPlace.l0 k (L.map ofA) (placeN s L).1 (placeN s L).2 b i s.bed s.channel) true
  | d, i, b, hd, hi, hb => by
    have bL : L.length ≤ 1000000 := by omega
    have lL : (L.map ofA).length = L.length := List.length_map _
    have lR : ((rankA L).map ofA).length = (rankA L).length := List.length_map _
    have rR : (rankA L).length = L.length := rankA_length L
    have w1 : wrap64 ((i : Int) + 1) = ((i + 1 : Nat) : Int) := w64 (by omega)
    refine Ev.succ ?_
    by_cases hlt : i < L.length
    · have e : L.getD (i : Int).toNat default = L[i] := by simp [hlt]
      have hn : ((L.take (i + 1)).any fun x => eqSB x s) = (b || eqSB L[i] s) := by rw [List.take_succ_eq_append_getElem hlt, List.any_append, ← hb]; simp
      cases d with
      | zero => omega
      | succ d =>
        cases b with
        | true =>
          simp only [watchmanlaw07_RankPlace.l0, if_pos (show (i : Int) < ((L.map ofA).length : Int) by omega), if_true, w1]
          exact place_l0' L s hL d (i + 1) true (by omega) (by omega) (by rw [hn]; rfl)
        | false =>
          simp only [watchmanlaw07_RankPlace.l0, if_pos (show (i : Int) < ((L.map ofA).length : Int) by omega), Bool.false_eq_true, if_false, if_pos (show (0 : Int) ≤ (i : Int) by omega), rdL, e, ofA, w1]
          exact place_l0' L s hL d (i + 1) _ (by omega) (by omega) (by rw [hn]; rfl)
    · have he : L.take i = L := List.take_of_length_le (by omega)
      rw [he, ← any_rank, ← idx_any] at hb
      simp only [watchmanlaw07_RankPlace.l0, if_neg (show ¬ (i : Int) < ((L.map ofA).length : Int) by omega), sort_f L bL, Option.bind_some]
      by_cases q : idxS s (rankA L) < (rankA L).length
      · rw [decide_eq_true q] at hb
        subst hb
        have e2 : idxI s (rankA L) = ((idxS s (rankA L) : Nat) : Int) := by unfold idxI; rw [decide_eq_true q]; rfl
        have p1 : (placeN s L).1 = ((idxS s (rankA L) : Nat) : Int) := by unfold placeN; rw [e2]; simp; intro h; omega
        have p2 : (placeN s L).2 = true := by unfold placeN; rw [e2]; simp
        have hx : (((rankA L)[idxS s (rankA L)].spot.bed == s.bed) && ((rankA L)[idxS s (rankA L)].spot.channel == s.channel)) = true := idx_hit s (rankA L) q
        have hx' : (!((rankA L)[idxS s (rankA L)].spot.bed == s.bed) || !((rankA L)[idxS s (rankA L)].spot.channel == s.channel)) = false := by rw [← Bool.not_and, hx]; rfl
        have e3 : (rankA L).getD ((idxS s (rankA L) : Nat) : Int).toNat default = (rankA L)[idxS s (rankA L)] := by simp [q]
        simp only [p1, p2, if_true, if_neg (show ¬ ((idxS s (rankA L) : Nat) : Int) < 0 by omega), if_neg (show ¬ ((idxS s (rankA L) : Nat) : Int) ≥ (((rankA L).map ofA).length : Int) by omega), if_pos (show (0 : Int) ≤ ((idxS s (rankA L) : Nat) : Int) by omega), if_pos (show ((idxS s (rankA L) : Nat) : Int) < (((rankA L).map ofA).length : Int) by omega), rdL, e3, ofA, hx']
        refine Ev.succ ?_
        simp only [watchmanlaw07_RankPlace.j1, Bool.false_eq_true, if_false]
        exact place_l1 L s hL q _ 0 rfl (Nat.zero_le _)
      · rw [decide_eq_false q] at hb
        subst hb
        have e2 : idxI s (rankA L) = -1 := by unfold idxI; rw [decide_eq_false q]; rfl
        have p1 : (placeN s L).1 = 0 := by unfold placeN; rw [e2]; simp
        have p2 : (placeN s L).2 = false := by unfold placeN; rw [e2]; simp
        simp only [p1, p2, Bool.false_eq_true, if_false]
        refine Ev.bind ranked_ev ?_
        simp only [if_true, beq_self_eq_true]
        exact Ev.now _
theorem place_true (l0 : List S34) (a0 a1 : Int) : ∃ k, watchmanlaw07_RankPlace.f k l0 a0 a1 = some true := by
  obtain ⟨L, rfl⟩ : ∃ L : List Alarm, l0 = L.map ofA := ⟨l0.map toA, (map_ofA l0).symm⟩
  refine Ev.rounds (g := fun k => watchmanlaw07_RankPlace.f k (L.map ofA) a0 a1) ?_
  unfold watchmanlaw07_RankPlace.f
  by_cases h : ((L.map ofA).length : Int) > 60
  · simp only [if_pos h]; exact Ev.now _
  · have hL : L.length ≤ 60 := by simp at h; omega
    have := place_f L ⟨a0, a1⟩ (show L.length ≤ 1000000 by omega)
    simp only [if_neg h, this, Option.bind_some]
    exact place_l0' L ⟨a0, a1⟩ hL _ 0 false rfl (Nat.zero_le _) rfl
end Go.Proofs.Ytjjagjehaoidbaa.P

set_option linter.unusedVariables false
namespace Go.Proofs.Ytjjagjehaoidbaa
open Go.Eng Go.Proofs
theorem ranked_call : CallOk Try.prog 21 [] [] 0 (.ret (.bool true)) [] 0 := by
  refine ⟨⟨_, Try.func21, by kernel_rfl⟩, fun w0 F ρ RO w vs H hvs => ?_⟩
  obtain rfl := hvs.inv_nil
  obtain ⟨k, hk⟩ := P.ranked_ev.rounds
  refine (P.watchmanlaw07_ranked.calls k true w hk).mono fun e w' he => ?_
  obtain ⟨rfl, hb⟩ := he
  have fr : Go.Eng.Frame w (fun _ => False) w' := ⟨hb.os, hb.tape, hb.output, hb.size, fun k hk _ => hb.block k hk, fun d => absurd d (fun h => h)⟩
  obtain ⟨g1, g2⟩ := H.grown fr
  exact ⟨ρ, RO, g1, g2, _, rfl, .bool true⟩
def conRk : Con := (21, fun l => match l with | [] => some (.bool true) | _ => none)
theorem conRk_ok : ConOk Try.prog conRk := by
  intro l v e h n
  unfold conRk at e
  simp only at e
  split at e
  · cases e; exact pure_call ranked_call rfl rfl h n
  · cases e
end Go.Proofs.Ytjjagjehaoidbaa

set_option linter.unusedVariables false
set_option linter.unusedSimpArgs false
namespace Go.Proofs.Ytjjagjehaoidbaa
open Go.Eng Go.Proofs
theorem orderCf : CfOk Try.prog (runG Try.prog (conΔ [conRk, concmpA]) 60 12) := runG_ok noNum mixed (conΔ_ok (List.forall_mem_cons.2 ⟨conRk_ok, List.forall_mem_cons.2 ⟨concmpA_ok, List.forall_mem_nil _⟩⟩)) _
theorem order_w0 (a : Alarm) (b : Alarm) (c : Alarm) : resOf (runG Try.prog (conΔ [conRk, concmpA]) 60 12 4 [.agg (Alarm.cells a), .agg (Alarm.cells b), .agg (Alarm.cells c)] [] 0 [.go 1 true, .go 0 true, .go 0 true, .go 2 true, .go 0 true, .go 1 true, .go 0 true]) = some (.ret (.bool true), [(true, ((cmpA a b == (0 : Int)) == (Spot.bed (Alarm.spot a) == Spot.bed (Alarm.spot b) && Spot.channel (Alarm.spot a) == Spot.channel (Alarm.spot b) && (Alarm.phase a == Alarm.phase b && (Alarm.prio a == Alarm.prio b && (Alarm.since a == Alarm.since b && Alarm.until_ a == Alarm.until_ b)))))), (true, (Go.IntKind.wrap Go.IntKind.i64 (cmpA a b + cmpA b a) == (0 : Int))), (true, (decide (cmpA a b < (0 : Int)))), (true, (decide (cmpA a b < (0 : Int)))), (true, (!decide (cmpA b c < (0 : Int)))), (true, (decide (cmpA a b ≤ (0 : Int)))), (true, (!decide (cmpA b c ≤ (0 : Int))))]) := by kernel_rfl
theorem order_w1 (a : Alarm) (b : Alarm) (c : Alarm) : resOf (runG Try.prog (conΔ [conRk, concmpA]) 60 12 4 [.agg (Alarm.cells a), .agg (Alarm.cells b), .agg (Alarm.cells c)] [] 0 [.go 1 true, .go 0 true, .go 0 true, .go 2 true, .go 0 true, .go 1 true, .go 0 false]) = some (.ret (.bool (decide (cmpA a c ≤ (0 : Int)))), [(true, ((cmpA a b == (0 : Int)) == (Spot.bed (Alarm.spot a) == Spot.bed (Alarm.spot b) && Spot.channel (Alarm.spot a) == Spot.channel (Alarm.spot b) && (Alarm.phase a == Alarm.phase b && (Alarm.prio a == Alarm.prio b && (Alarm.since a == Alarm.since b && Alarm.until_ a == Alarm.until_ b)))))), (true, (Go.IntKind.wrap Go.IntKind.i64 (cmpA a b + cmpA b a) == (0 : Int))), (true, (decide (cmpA a b < (0 : Int)))), (true, (decide (cmpA a b < (0 : Int)))), (true, (!decide (cmpA b c < (0 : Int)))), (true, (decide (cmpA a b ≤ (0 : Int)))), (false, (!decide (cmpA b c ≤ (0 : Int))))]) := by kernel_rfl
theorem order_w2 (a : Alarm) (b : Alarm) (c : Alarm) : resOf (runG Try.prog (conΔ [conRk, concmpA]) 60 12 4 [.agg (Alarm.cells a), .agg (Alarm.cells b), .agg (Alarm.cells c)] [] 0 [.go 1 true, .go 0 true, .go 0 true, .go 2 true, .go 0 true, .go 1 false]) = some (.ret (.bool true), [(true, ((cmpA a b == (0 : Int)) == (Spot.bed (Alarm.spot a) == Spot.bed (Alarm.spot b) && Spot.channel (Alarm.spot a) == Spot.channel (Alarm.spot b) && (Alarm.phase a == Alarm.phase b && (Alarm.prio a == Alarm.prio b && (Alarm.since a == Alarm.since b && Alarm.until_ a == Alarm.until_ b)))))), (true, (Go.IntKind.wrap Go.IntKind.i64 (cmpA a b + cmpA b a) == (0 : Int))), (true, (decide (cmpA a b < (0 : Int)))), (true, (decide (cmpA a b < (0 : Int)))), (true, (!decide (cmpA b c < (0 : Int)))), (false, (decide (cmpA a b ≤ (0 : Int))))]) := by kernel_rfl
theorem order_w3 (a : Alarm) (b : Alarm) (c : Alarm) : resOf (runG Try.prog (conΔ [conRk, concmpA]) 60 12 4 [.agg (Alarm.cells a), .agg (Alarm.cells b), .agg (Alarm.cells c)] [] 0 [.go 1 true, .go 0 true, .go 0 true, .go 2 true, .go 0 false, .go 0 true, .go 0 true, .go 0 true]) = some (.ret (.bool true), [(true, ((cmpA a b == (0 : Int)) == (Spot.bed (Alarm.spot a) == Spot.bed (Alarm.spot b) && Spot.channel (Alarm.spot a) == Spot.channel (Alarm.spot b) && (Alarm.phase a == Alarm.phase b && (Alarm.prio a == Alarm.prio b && (Alarm.since a == Alarm.since b && Alarm.until_ a == Alarm.until_ b)))))), (true, (Go.IntKind.wrap Go.IntKind.i64 (cmpA a b + cmpA b a) == (0 : Int))), (true, (decide (cmpA a b < (0 : Int)))), (true, (decide (cmpA a b < (0 : Int)))), (false, (!decide (cmpA b c < (0 : Int)))), (true, (decide (cmpA a c < (0 : Int)))), (true, (decide (cmpA a b ≤ (0 : Int)))), (true, (!decide (cmpA b c ≤ (0 : Int))))]) := by kernel_rfl
theorem order_w4 (a : Alarm) (b : Alarm) (c : Alarm) : resOf (runG Try.prog (conΔ [conRk, concmpA]) 60 12 4 [.agg (Alarm.cells a), .agg (Alarm.cells b), .agg (Alarm.cells c)] [] 0 [.go 1 true, .go 0 true, .go 0 true, .go 2 true, .go 0 false, .go 0 true, .go 0 true, .go 0 false]) = some (.ret (.bool (decide (cmpA a c ≤ (0 : Int)))), [(true, ((cmpA a b == (0 : Int)) == (Spot.bed (Alarm.spot a) == Spot.bed (Alarm.spot b) && Spot.channel (Alarm.spot a) == Spot.channel (Alarm.spot b) && (Alarm.phase a == Alarm.phase b && (Alarm.prio a == Alarm.prio b && (Alarm.since a == Alarm.since b && Alarm.until_ a == Alarm.until_ b)))))), (true, (Go.IntKind.wrap Go.IntKind.i64 (cmpA a b + cmpA b a) == (0 : Int))), (true, (decide (cmpA a b < (0 : Int)))), (true, (decide (cmpA a b < (0 : Int)))), (false, (!decide (cmpA b c < (0 : Int)))), (true, (decide (cmpA a c < (0 : Int)))), (true, (decide (cmpA a b ≤ (0 : Int)))), (false, (!decide (cmpA b c ≤ (0 : Int))))]) := by kernel_rfl
theorem order_w5 (a : Alarm) (b : Alarm) (c : Alarm) : resOf (runG Try.prog (conΔ [conRk, concmpA]) 60 12 4 [.agg (Alarm.cells a), .agg (Alarm.cells b), .agg (Alarm.cells c)] [] 0 [.go 1 true, .go 0 true, .go 0 true, .go 2 true, .go 0 false, .go 0 true, .go 0 false]) = some (.ret (.bool true), [(true, ((cmpA a b == (0 : Int)) == (Spot.bed (Alarm.spot a) == Spot.bed (Alarm.spot b) && Spot.channel (Alarm.spot a) == Spot.channel (Alarm.spot b) && (Alarm.phase a == Alarm.phase b && (Alarm.prio a == Alarm.prio b && (Alarm.since a == Alarm.since b && Alarm.until_ a == Alarm.until_ b)))))), (true, (Go.IntKind.wrap Go.IntKind.i64 (cmpA a b + cmpA b a) == (0 : Int))), (true, (decide (cmpA a b < (0 : Int)))), (true, (decide (cmpA a b < (0 : Int)))), (false, (!decide (cmpA b c < (0 : Int)))), (true, (decide (cmpA a c < (0 : Int)))), (false, (decide (cmpA a b ≤ (0 : Int))))]) := by kernel_rfl
theorem order_w6 (a : Alarm) (b : Alarm) (c : Alarm) : resOf (runG Try.prog (conΔ [conRk, concmpA]) 60 12 4 [.agg (Alarm.cells a), .agg (Alarm.cells b), .agg (Alarm.cells c)] [] 0 [.go 1 true, .go 0 true, .go 0 true, .go 2 true, .go 0 false, .go 0 false]) = some (.ret (.bool false), [(true, ((cmpA a b == (0 : Int)) == (Spot.bed (Alarm.spot a) == Spot.bed (Alarm.spot b) && Spot.channel (Alarm.spot a) == Spot.channel (Alarm.spot b) && (Alarm.phase a == Alarm.phase b && (Alarm.prio a == Alarm.prio b && (Alarm.since a == Alarm.since b && Alarm.until_ a == Alarm.until_ b)))))), (true, (Go.IntKind.wrap Go.IntKind.i64 (cmpA a b + cmpA b a) == (0 : Int))), (true, (decide (cmpA a b < (0 : Int)))), (true, (decide (cmpA a b < (0 : Int)))), (false, (!decide (cmpA b c < (0 : Int)))), (false, (decide (cmpA a c < (0 : Int))))]) := by kernel_rfl
theorem order_w7 (a : Alarm) (b : Alarm) (c : Alarm) : resOf (runG Try.prog (conΔ [conRk, concmpA]) 60 12 4 [.agg (Alarm.cells a), .agg (Alarm.cells b), .agg (Alarm.cells c)] [] 0 [.go 1 true, .go 0 true, .go 0 false, .go 0 true, .go 1 false, .go 2 true, .go 0 true]) = some (.ret (.bool true), [(true, ((cmpA a b == (0 : Int)) == (Spot.bed (Alarm.spot a) == Spot.bed (Alarm.spot b) && Spot.channel (Alarm.spot a) == Spot.channel (Alarm.spot b) && (Alarm.phase a == Alarm.phase b && (Alarm.prio a == Alarm.prio b && (Alarm.since a == Alarm.since b && Alarm.until_ a == Alarm.until_ b)))))), (true, (Go.IntKind.wrap Go.IntKind.i64 (cmpA a b + cmpA b a) == (0 : Int))), (false, (decide (cmpA a b < (0 : Int)))), (true, (cmpA a b == (0 : Int))), (false, (decide (cmpA a b < (0 : Int)))), (true, (decide (cmpA a b ≤ (0 : Int)))), (true, (!decide (cmpA b c ≤ (0 : Int))))]) := by kernel_rfl
theorem order_w8 (a : Alarm) (b : Alarm) (c : Alarm) : resOf (runG Try.prog (conΔ [conRk, concmpA]) 60 12 4 [.agg (Alarm.cells a), .agg (Alarm.cells b), .agg (Alarm.cells c)] [] 0 [.go 1 true, .go 0 true, .go 0 false, .go 0 true, .go 1 false, .go 2 true, .go 0 false]) = some (.ret (.bool (decide (cmpA a c ≤ (0 : Int)))), [(true, ((cmpA a b == (0 : Int)) == (Spot.bed (Alarm.spot a) == Spot.bed (Alarm.spot b) && Spot.channel (Alarm.spot a) == Spot.channel (Alarm.spot b) && (Alarm.phase a == Alarm.phase b && (Alarm.prio a == Alarm.prio b && (Alarm.since a == Alarm.since b && Alarm.until_ a == Alarm.until_ b)))))), (true, (Go.IntKind.wrap Go.IntKind.i64 (cmpA a b + cmpA b a) == (0 : Int))), (false, (decide (cmpA a b < (0 : Int)))), (true, (cmpA a b == (0 : Int))), (false, (decide (cmpA a b < (0 : Int)))), (true, (decide (cmpA a b ≤ (0 : Int)))), (false, (!decide (cmpA b c ≤ (0 : Int))))]) := by kernel_rfl
theorem order_w9 (a : Alarm) (b : Alarm) (c : Alarm) : resOf (runG Try.prog (conΔ [conRk, concmpA]) 60 12 4 [.agg (Alarm.cells a), .agg (Alarm.cells b), .agg (Alarm.cells c)] [] 0 [.go 1 true, .go 0 true, .go 0 false, .go 0 true, .go 1 false, .go 2 false]) = some (.ret (.bool true), [(true, ((cmpA a b == (0 : Int)) == (Spot.bed (Alarm.spot a) == Spot.bed (Alarm.spot b) && Spot.channel (Alarm.spot a) == Spot.channel (Alarm.spot b) && (Alarm.phase a == Alarm.phase b && (Alarm.prio a == Alarm.prio b && (Alarm.since a == Alarm.since b && Alarm.until_ a == Alarm.until_ b)))))), (true, (Go.IntKind.wrap Go.IntKind.i64 (cmpA a b + cmpA b a) == (0 : Int))), (false, (decide (cmpA a b < (0 : Int)))), (true, (cmpA a b == (0 : Int))), (false, (decide (cmpA a b < (0 : Int)))), (false, (decide (cmpA a b ≤ (0 : Int))))]) := by kernel_rfl
theorem order_w10 (a : Alarm) (b : Alarm) (c : Alarm) : resOf (runG Try.prog (conΔ [conRk, concmpA]) 60 12 4 [.agg (Alarm.cells a), .agg (Alarm.cells b), .agg (Alarm.cells c)] [] 0 [.go 1 true, .go 0 true, .go 0 false, .go 0 false, .go 0 true, .go 0 false, .go 2 true, .go 0 true]) = some (.ret (.bool true), [(true, ((cmpA a b == (0 : Int)) == (Spot.bed (Alarm.spot a) == Spot.bed (Alarm.spot b) && Spot.channel (Alarm.spot a) == Spot.channel (Alarm.spot b) && (Alarm.phase a == Alarm.phase b && (Alarm.prio a == Alarm.prio b && (Alarm.since a == Alarm.since b && Alarm.until_ a == Alarm.until_ b)))))), (true, (Go.IntKind.wrap Go.IntKind.i64 (cmpA a b + cmpA b a) == (0 : Int))), (false, (decide (cmpA a b < (0 : Int)))), (false, (cmpA a b == (0 : Int))), (true, (cmpA a b == (1 : Int))), (false, (decide (cmpA a b < (0 : Int)))), (true, (decide (cmpA a b ≤ (0 : Int)))), (true, (!decide (cmpA b c ≤ (0 : Int))))]) := by kernel_rfl
theorem order_w11 (a : Alarm) (b : Alarm) (c : Alarm) : resOf (runG Try.prog (conΔ [conRk, concmpA]) 60 12 4 [.agg (Alarm.cells a), .agg (Alarm.cells b), .agg (Alarm.cells c)] [] 0 [.go 1 true, .go 0 true, .go 0 false, .go 0 false, .go 0 true, .go 0 false, .go 2 true, .go 0 false]) = some (.ret (.bool (decide (cmpA a c ≤ (0 : Int)))), [(true, ((cmpA a b == (0 : Int)) == (Spot.bed (Alarm.spot a) == Spot.bed (Alarm.spot b) && Spot.channel (Alarm.spot a) == Spot.channel (Alarm.spot b) && (Alarm.phase a == Alarm.phase b && (Alarm.prio a == Alarm.prio b && (Alarm.since a == Alarm.since b && Alarm.until_ a == Alarm.until_ b)))))), (true, (Go.IntKind.wrap Go.IntKind.i64 (cmpA a b + cmpA b a) == (0 : Int))), (false, (decide (cmpA a b < (0 : Int)))), (false, (cmpA a b == (0 : Int))), (true, (cmpA a b == (1 : Int))), (false, (decide (cmpA a b < (0 : Int)))), (true, (decide (cmpA a b ≤ (0 : Int)))), (false, (!decide (cmpA b c ≤ (0 : Int))))]) := by kernel_rfl
theorem order_w12 (a : Alarm) (b : Alarm) (c : Alarm) : resOf (runG Try.prog (conΔ [conRk, concmpA]) 60 12 4 [.agg (Alarm.cells a), .agg (Alarm.cells b), .agg (Alarm.cells c)] [] 0 [.go 1 true, .go 0 true, .go 0 false, .go 0 false, .go 0 true, .go 0 false, .go 2 false]) = some (.ret (.bool true), [(true, ((cmpA a b == (0 : Int)) == (Spot.bed (Alarm.spot a) == Spot.bed (Alarm.spot b) && Spot.channel (Alarm.spot a) == Spot.channel (Alarm.spot b) && (Alarm.phase a == Alarm.phase b && (Alarm.prio a == Alarm.prio b && (Alarm.since a == Alarm.since b && Alarm.until_ a == Alarm.until_ b)))))), (true, (Go.IntKind.wrap Go.IntKind.i64 (cmpA a b + cmpA b a) == (0 : Int))), (false, (decide (cmpA a b < (0 : Int)))), (false, (cmpA a b == (0 : Int))), (true, (cmpA a b == (1 : Int))), (false, (decide (cmpA a b < (0 : Int)))), (false, (decide (cmpA a b ≤ (0 : Int))))]) := by kernel_rfl
theorem order_w13 (a : Alarm) (b : Alarm) (c : Alarm) : resOf (runG Try.prog (conΔ [conRk, concmpA]) 60 12 4 [.agg (Alarm.cells a), .agg (Alarm.cells b), .agg (Alarm.cells c)] [] 0 [.go 1 true, .go 0 true, .go 0 false, .go 0 false, .go 0 false]) = some (.ret (.bool false), [(true, ((cmpA a b == (0 : Int)) == (Spot.bed (Alarm.spot a) == Spot.bed (Alarm.spot b) && Spot.channel (Alarm.spot a) == Spot.channel (Alarm.spot b) && (Alarm.phase a == Alarm.phase b && (Alarm.prio a == Alarm.prio b && (Alarm.since a == Alarm.since b && Alarm.until_ a == Alarm.until_ b)))))), (true, (Go.IntKind.wrap Go.IntKind.i64 (cmpA a b + cmpA b a) == (0 : Int))), (false, (decide (cmpA a b < (0 : Int)))), (false, (cmpA a b == (0 : Int))), (false, (cmpA a b == (1 : Int)))]) := by kernel_rfl
theorem order_w14 (a : Alarm) (b : Alarm) (c : Alarm) : resOf (runG Try.prog (conΔ [conRk, concmpA]) 60 12 4 [.agg (Alarm.cells a), .agg (Alarm.cells b), .agg (Alarm.cells c)] [] 0 [.go 1 true, .go 0 false]) = some (.ret (.bool false), [(true, ((cmpA a b == (0 : Int)) == (Spot.bed (Alarm.spot a) == Spot.bed (Alarm.spot b) && Spot.channel (Alarm.spot a) == Spot.channel (Alarm.spot b) && (Alarm.phase a == Alarm.phase b && (Alarm.prio a == Alarm.prio b && (Alarm.since a == Alarm.since b && Alarm.until_ a == Alarm.until_ b)))))), (false, (Go.IntKind.wrap Go.IntKind.i64 (cmpA a b + cmpA b a) == (0 : Int)))]) := by kernel_rfl
theorem order_w15 (a : Alarm) (b : Alarm) (c : Alarm) : resOf (runG Try.prog (conΔ [conRk, concmpA]) 60 12 4 [.agg (Alarm.cells a), .agg (Alarm.cells b), .agg (Alarm.cells c)] [] 0 [.go 1 false]) = some (.ret (.bool false), [(false, ((cmpA a b == (0 : Int)) == (Spot.bed (Alarm.spot a) == Spot.bed (Alarm.spot b) && Spot.channel (Alarm.spot a) == Spot.channel (Alarm.spot b) && (Alarm.phase a == Alarm.phase b && (Alarm.prio a == Alarm.prio b && (Alarm.since a == Alarm.since b && Alarm.until_ a == Alarm.until_ b))))))]) := by kernel_rfl
theorem eq_fact (a b : Alarm) : ((cmpA a b == (0 : Int)) == eqAB a b) = true := by
  rw [beq_iff_eq, Bool.eq_iff_iff, beq_iff_eq, eqAB_iff]; exact cmpA_zero a b
theorem sum_fact (a b : Alarm) : (IntKind.i64.wrap (cmpA a b + cmpA b a) == (0 : Int)) = true := by
  rw [cmpA_swap a b, show cmpA a b + -cmpA a b = 0 by omega]; rfl
theorem order_ok (a : Alarm) (b : Alarm) (c : Alarm)  (h : Heap) (n : Nat) : CallOk Try.prog 4 [.agg (Alarm.cells a), .agg (Alarm.cells b), .agg (Alarm.cells c)] h n (.ret (.bool true)) h n := by
  have c1 := cmpA_cases a b
  have c2 := cmpA_cases b c
  have c3 := cmpA_cases a c
  have t1 : cmpA a b < 0 → cmpA b c < 0 → cmpA a c < 0 := fun h1 h2 => cmpA_lt_trans h1 (Int.le_of_lt h2)
  have t2 : cmpA a b ≤ 0 → cmpA b c ≤ 0 → cmpA a c ≤ 0 := cmpA_le_trans
  have hE := eq_fact a b
  have hS := sum_fact a b
  rcases Bool.eq_false_or_eq_true ((cmpA a b == (0 : Int)) == (Spot.bed (Alarm.spot a) == Spot.bed (Alarm.spot b) && Spot.channel (Alarm.spot a) == Spot.channel (Alarm.spot b) && (Alarm.phase a == Alarm.phase b && (Alarm.prio a == Alarm.prio b && (Alarm.since a == Alarm.since b && Alarm.until_ a == Alarm.until_ b))))) with h0 | h0
  ·
    rcases Bool.eq_false_or_eq_true (Go.IntKind.wrap Go.IntKind.i64 (cmpA a b + cmpA b a) == (0 : Int)) with h1 | h1
    ·
      rcases Bool.eq_false_or_eq_true (decide (cmpA a b < (0 : Int))) with h2 | h2
      ·
        rcases Bool.eq_false_or_eq_true (!decide (cmpA b c < (0 : Int))) with h4 | h4
        ·
          rcases Bool.eq_false_or_eq_true (decide (cmpA a b ≤ (0 : Int))) with h5 | h5
          ·
            rcases Bool.eq_false_or_eq_true (!decide (cmpA b c ≤ (0 : Int))) with h6 | h6
            ·
              exact way orderCf (order_w0 a b c) (conds_cons h0.symm (conds_cons h1.symm (conds_cons h2.symm (conds_cons h2.symm (conds_cons h4.symm (conds_cons h5.symm (conds_cons h6.symm conds_nil))))))) rfl rfl h n
            ·
              have e : (decide (cmpA a c ≤ (0 : Int))) = true := by
                refine decide_eq_true ?_
                first | exact Bool.noConfusion (h0.symm.trans hE) | exact Bool.noConfusion (h1.symm.trans hS) | ((try simp only [decide_eq_true_eq, decide_eq_false_iff_not, Bool.not_eq_true', Bool.not_eq_false', beq_iff_eq, beq_eq_false_iff_ne, ne_eq] at h2); (try simp only [decide_eq_true_eq, decide_eq_false_iff_not, Bool.not_eq_true', Bool.not_eq_false', beq_iff_eq, beq_eq_false_iff_ne, ne_eq] at h4); (try simp only [decide_eq_true_eq, decide_eq_false_iff_not, Bool.not_eq_true', Bool.not_eq_false', beq_iff_eq, beq_eq_false_iff_ne, ne_eq] at h5); (try simp only [decide_eq_true_eq, decide_eq_false_iff_not, Bool.not_eq_true', Bool.not_eq_false', beq_iff_eq, beq_eq_false_iff_ne, ne_eq] at h6); omega)
              have q := way orderCf (order_w1 a b c) (conds_cons h0.symm (conds_cons h1.symm (conds_cons h2.symm (conds_cons h2.symm (conds_cons h4.symm (conds_cons h5.symm (conds_cons h6.symm conds_nil))))))) rfl rfl h n
              rw [e] at q
              exact q
          ·
            exact way orderCf (order_w2 a b c) (conds_cons h0.symm (conds_cons h1.symm (conds_cons h2.symm (conds_cons h2.symm (conds_cons h4.symm (conds_cons h5.symm conds_nil)))))) rfl rfl h n
        ·
          rcases Bool.eq_false_or_eq_true (decide (cmpA a c < (0 : Int))) with h5 | h5
          ·
            rcases Bool.eq_false_or_eq_true (decide (cmpA a b ≤ (0 : Int))) with h6 | h6
            ·
              rcases Bool.eq_false_or_eq_true (!decide (cmpA b c ≤ (0 : Int))) with h7 | h7
              ·
                exact way orderCf (order_w3 a b c) (conds_cons h0.symm (conds_cons h1.symm (conds_cons h2.symm (conds_cons h2.symm (conds_cons h4.symm (conds_cons h5.symm (conds_cons h6.symm (conds_cons h7.symm conds_nil)))))))) rfl rfl h n
              ·
                have e : (decide (cmpA a c ≤ (0 : Int))) = true := by
                  refine decide_eq_true ?_
                  first | exact Bool.noConfusion (h0.symm.trans hE) | exact Bool.noConfusion (h1.symm.trans hS) | ((try simp only [decide_eq_true_eq, decide_eq_false_iff_not, Bool.not_eq_true', Bool.not_eq_false', beq_iff_eq, beq_eq_false_iff_ne, ne_eq] at h2); (try simp only [decide_eq_true_eq, decide_eq_false_iff_not, Bool.not_eq_true', Bool.not_eq_false', beq_iff_eq, beq_eq_false_iff_ne, ne_eq] at h4); (try simp only [decide_eq_true_eq, decide_eq_false_iff_not, Bool.not_eq_true', Bool.not_eq_false', beq_iff_eq, beq_eq_false_iff_ne, ne_eq] at h5); (try simp only [decide_eq_true_eq, decide_eq_false_iff_not, Bool.not_eq_true', Bool.not_eq_false', beq_iff_eq, beq_eq_false_iff_ne, ne_eq] at h6); (try simp only [decide_eq_true_eq, decide_eq_false_iff_not, Bool.not_eq_true', Bool.not_eq_false', beq_iff_eq, beq_eq_false_iff_ne, ne_eq] at h7); omega)
                have q := way orderCf (order_w4 a b c) (conds_cons h0.symm (conds_cons h1.symm (conds_cons h2.symm (conds_cons h2.symm (conds_cons h4.symm (conds_cons h5.symm (conds_cons h6.symm (conds_cons h7.symm conds_nil)))))))) rfl rfl h n
                rw [e] at q
                exact q
            ·
              exact way orderCf (order_w5 a b c) (conds_cons h0.symm (conds_cons h1.symm (conds_cons h2.symm (conds_cons h2.symm (conds_cons h4.symm (conds_cons h5.symm (conds_cons h6.symm conds_nil))))))) rfl rfl h n
          ·
            exfalso
            first | exact Bool.noConfusion (h0.symm.trans hE) | exact Bool.noConfusion (h1.symm.trans hS) | ((try simp only [decide_eq_true_eq, decide_eq_false_iff_not, Bool.not_eq_true', Bool.not_eq_false', beq_iff_eq, beq_eq_false_iff_ne, ne_eq] at h2); (try simp only [decide_eq_true_eq, decide_eq_false_iff_not, Bool.not_eq_true', Bool.not_eq_false', beq_iff_eq, beq_eq_false_iff_ne, ne_eq] at h4); (try simp only [decide_eq_true_eq, decide_eq_false_iff_not, Bool.not_eq_true', Bool.not_eq_false', beq_iff_eq, beq_eq_false_iff_ne, ne_eq] at h5); omega)
      ·
        rcases Bool.eq_false_or_eq_true (cmpA a b == (0 : Int)) with h3 | h3
        ·
          rcases Bool.eq_false_or_eq_true (decide (cmpA a b ≤ (0 : Int))) with h5 | h5
          ·
            rcases Bool.eq_false_or_eq_true (!decide (cmpA b c ≤ (0 : Int))) with h6 | h6
            ·
              exact way orderCf (order_w7 a b c) (conds_cons h0.symm (conds_cons h1.symm (conds_cons h2.symm (conds_cons h3.symm (conds_cons h2.symm (conds_cons h5.symm (conds_cons h6.symm conds_nil))))))) rfl rfl h n
            ·
              have e : (decide (cmpA a c ≤ (0 : Int))) = true := by
                refine decide_eq_true ?_
                first | exact Bool.noConfusion (h0.symm.trans hE) | exact Bool.noConfusion (h1.symm.trans hS) | ((try simp only [decide_eq_true_eq, decide_eq_false_iff_not, Bool.not_eq_true', Bool.not_eq_false', beq_iff_eq, beq_eq_false_iff_ne, ne_eq] at h2); (try simp only [decide_eq_true_eq, decide_eq_false_iff_not, Bool.not_eq_true', Bool.not_eq_false', beq_iff_eq, beq_eq_false_iff_ne, ne_eq] at h3); (try simp only [decide_eq_true_eq, decide_eq_false_iff_not, Bool.not_eq_true', Bool.not_eq_false', beq_iff_eq, beq_eq_false_iff_ne, ne_eq] at h5); (try simp only [decide_eq_true_eq, decide_eq_false_iff_not, Bool.not_eq_true', Bool.not_eq_false', beq_iff_eq, beq_eq_false_iff_ne, ne_eq] at h6); omega)
              have q := way orderCf (order_w8 a b c) (conds_cons h0.symm (conds_cons h1.symm (conds_cons h2.symm (conds_cons h3.symm (conds_cons h2.symm (conds_cons h5.symm (conds_cons h6.symm conds_nil))))))) rfl rfl h n
              rw [e] at q
              exact q
          ·
            exact way orderCf (order_w9 a b c) (conds_cons h0.symm (conds_cons h1.symm (conds_cons h2.symm (conds_cons h3.symm (conds_cons h2.symm (conds_cons h5.symm conds_nil)))))) rfl rfl h n
        ·
          rcases Bool.eq_false_or_eq_true (cmpA a b == (1 : Int)) with h4 | h4
          ·
            rcases Bool.eq_false_or_eq_true (decide (cmpA a b ≤ (0 : Int))) with h6 | h6
            ·
              rcases Bool.eq_false_or_eq_true (!decide (cmpA b c ≤ (0 : Int))) with h7 | h7
              ·
                exact way orderCf (order_w10 a b c) (conds_cons h0.symm (conds_cons h1.symm (conds_cons h2.symm (conds_cons h3.symm (conds_cons h4.symm (conds_cons h2.symm (conds_cons h6.symm (conds_cons h7.symm conds_nil)))))))) rfl rfl h n
              ·
                have e : (decide (cmpA a c ≤ (0 : Int))) = true := by
                  refine decide_eq_true ?_
                  first | exact Bool.noConfusion (h0.symm.trans hE) | exact Bool.noConfusion (h1.symm.trans hS) | ((try simp only [decide_eq_true_eq, decide_eq_false_iff_not, Bool.not_eq_true', Bool.not_eq_false', beq_iff_eq, beq_eq_false_iff_ne, ne_eq] at h2); (try simp only [decide_eq_true_eq, decide_eq_false_iff_not, Bool.not_eq_true', Bool.not_eq_false', beq_iff_eq, beq_eq_false_iff_ne, ne_eq] at h3); (try simp only [decide_eq_true_eq, decide_eq_false_iff_not, Bool.not_eq_true', Bool.not_eq_false', beq_iff_eq, beq_eq_false_iff_ne, ne_eq] at h4); (try simp only [decide_eq_true_eq, decide_eq_false_iff_not, Bool.not_eq_true', Bool.not_eq_false', beq_iff_eq, beq_eq_false_iff_ne, ne_eq] at h6); (try simp only [decide_eq_true_eq, decide_eq_false_iff_not, Bool.not_eq_true', Bool.not_eq_false', beq_iff_eq, beq_eq_false_iff_ne, ne_eq] at h7); omega)
                have q := way orderCf (order_w11 a b c) (conds_cons h0.symm (conds_cons h1.symm (conds_cons h2.symm (conds_cons h3.symm (conds_cons h4.symm (conds_cons h2.symm (conds_cons h6.symm (conds_cons h7.symm conds_nil)))))))) rfl rfl h n
                rw [e] at q
                exact q
            ·
              exact way orderCf (order_w12 a b c) (conds_cons h0.symm (conds_cons h1.symm (conds_cons h2.symm (conds_cons h3.symm (conds_cons h4.symm (conds_cons h2.symm (conds_cons h6.symm conds_nil))))))) rfl rfl h n
          ·
            exfalso
            first | exact Bool.noConfusion (h0.symm.trans hE) | exact Bool.noConfusion (h1.symm.trans hS) | ((try simp only [decide_eq_true_eq, decide_eq_false_iff_not, Bool.not_eq_true', Bool.not_eq_false', beq_iff_eq, beq_eq_false_iff_ne, ne_eq] at h2); (try simp only [decide_eq_true_eq, decide_eq_false_iff_not, Bool.not_eq_true', Bool.not_eq_false', beq_iff_eq, beq_eq_false_iff_ne, ne_eq] at h3); (try simp only [decide_eq_true_eq, decide_eq_false_iff_not, Bool.not_eq_true', Bool.not_eq_false', beq_iff_eq, beq_eq_false_iff_ne, ne_eq] at h4); omega)
    ·
      exfalso
      first | exact Bool.noConfusion (h0.symm.trans hE) | exact Bool.noConfusion (h1.symm.trans hS) | ( omega)
  ·
    exfalso
    first | exact Bool.noConfusion (h0.symm.trans hE) | exact Bool.noConfusion (h1.symm.trans hS) | ( omega)
theorem order_calls (a0 a1 a2 a3 a4 a5 b0 b1 b2 b3 b4 b5 c0 c1 c2 c3 c4 c5 : Int) (W : World) :
    Go.Calls Try.prog 4 #[.agg #[.int .i64 a0, .int .i64 a1, .int .i64 a2, .int .i64 a3, .int .i64 a4, .int .i64 a5], .agg #[.int .i64 b0, .int .i64 b1, .int .i64 b2, .int .i64 b3, .int .i64 b4, .int .i64 b5], .agg #[.int .i64 c0, .int .i64 c1, .int .i64 c2, .int .i64 c3, .int .i64 c4, .int .i64 c5]] W fun e w' => e = .returned (.bool true) ∧ Go.RowKit.Below W.heap.size W w' :=
  (CallOk.calls_bool (fun h n => order_ok ⟨⟨a0, a1⟩, a2, a3, a4, a5⟩ ⟨⟨b0, b1⟩, b2, b3, b4, b5⟩ ⟨⟨c0, c1⟩, c2, c3, c4, c5⟩ h n) (RO := fun b => b < W.heap.size) (fun _ h => h) (VRels.cons (agg_alarm _ _ _ ⟨⟨a0, a1⟩, a2, a3, a4, a5⟩) (VRels.cons (agg_alarm _ _ _ ⟨⟨b0, b1⟩, b2, b3, b4, b5⟩) (VRels.cons (agg_alarm _ _ _ ⟨⟨c0, c1⟩, c2, c3, c4, c5⟩) .nil)))).mono fun e w' h => ⟨h.1, h.2.below⟩
end Go.Proofs.Ytjjagjehaoidbaa

set_option linter.unusedVariables false
namespace Go.Rd
open Go.RowKit Go.Proofs.YtjjagjehaoidbaaW.PrintWords Go.ChangeShapes Go.WideShapes
variable {H : Type} {enc : TypeId × Value → H} {P : Program} {W : World}
def Read (enc : TypeId × Value → H) (P : Program) (W : World) (t : TypeId) (cs : List Value) : Prop := ∃ fuel x, DataW.trod enc P W 0 (fun _ => true) true fuel t cs = some x
theorem Read.of {t : TypeId} {v : Value} {d : DataW H} {ps : List MemPlace} (h : DataW.Trod enc P W 0 (fun _ => true) true t v d ps) : Read enc P W t v.cells.toList := by
  obtain ⟨fuel, h⟩ := h
  exact ⟨fuel, _, h⟩
def RdK {α : Type} (enc : TypeId × Value → H) (P : Program) (W : World) (d : Kd α) (t : TypeId) (good : α → Prop) : Prop := ∀ cs, Read enc P W t cs → cs.length = P.cellsOf t → ∃ x, good x ∧ d.K W x cs
theorem RdK.int {t : TypeId} {k : IntKind} (ht : P.underlying t = some (.int k)) : RdK enc P W (Kd.int k) t (fun n => (Lit.int k n).wf = true) := by
  rintro cs ⟨fuel, x, h⟩ _
  obtain ⟨n, rfl, _, h2⟩ := DataW.trod_int ht h
  exact ⟨n, h2, rfl⟩
theorem RdK.bool {t : TypeId} (ht : P.underlying t = some .bool) : RdK enc P W Kd.bool t (fun _ => True) := by
  rintro cs ⟨fuel, x, h⟩ _
  obtain ⟨n, rfl, _⟩ := DataW.trod_bool ht h
  exact ⟨n, trivial, rfl⟩
theorem RdK.str {t : TypeId} (ht : P.underlying t = some .string) : RdK enc P W Kd.string t (fun s => s.size ≤ maxLen) := by
  rintro cs ⟨fuel, x, h⟩ _
  obtain ⟨n, rfl, _, h2⟩ := DataW.trod_string ht h
  exact ⟨n, h2, rfl⟩
theorem RdK.iso {α β : Type} {d : Kd α} {f : β → α} {t : TypeId} {good : α → Prop} (h : RdK enc P W d t good) (inv : α → β) (hf : ∀ a, f (inv a) = a) : RdK enc P W (Kd.iso d f) t (fun b => good (f b)) := by
  intro cs hr hl
  obtain ⟨x, h1, h2⟩ := h cs hr hl
  exact ⟨inv x, by show good (f (inv x)); rw [hf]; exact h1, by show d.K W (f (inv x)) cs; rw [hf]; exact h2⟩
theorem RdK.imp {α : Type} {d : Kd α} {t : TypeId} {good good' : α → Prop} (h : RdK enc P W d t good) (hi : ∀ x, good x → good' x) : RdK enc P W d t good' := fun cs hr hl => by
  obtain ⟨x, h1, h2⟩ := h cs hr hl
  exact ⟨x, hi x h1, h2⟩
def RdF {α : Type} (enc : TypeId × Value → H) (P : Program) (W : World) (d : Kd α) (fl : List Field) (o m : Nat) (good : α → Prop) : Prop :=
  ∀ cs : List Value, cs.length = m → (∀ f ∈ fl, Read enc P W f.type ((cs.drop f.offset).take (P.cellsOf f.type))) → ∃ x, good x ∧ d.K W x (cs.drop o)
theorem RdF.last {α : Type} {d : Kd α} {f : Field} {o m n : Nat} {good : α → Prop} (h : RdK enc P W d f.type good) (ho : f.offset = o) (hn : P.cellsOf f.type = n) (hm : m = o + n) : RdF enc P W d [f] o m good := by
  intro cs hl hr
  have h1 := hr f (by simp)
  have e : (cs.drop f.offset).take (P.cellsOf f.type) = cs.drop o := by
    rw [ho, hn]; exact List.take_of_length_le (by rw [List.length_drop]; omega)
  rw [e] at h1
  exact h _ h1 (by rw [List.length_drop, hn]; omega)
theorem RdF.cons {α β : Type} {a : Kd α} {b : Kd β} {f : Field} {fl : List Field} {o m n : Nat} {g1 : α → Prop} {g2 : β → Prop} (h : RdK enc P W a f.type g1) (ho : f.offset = o) (hn : P.cellsOf f.type = n) (hm : o + n ≤ m) (t : RdF enc P W b fl (o + n) m g2) :
    RdF enc P W (Kd.pair a b) (f :: fl) o m (fun x => g1 x.1 ∧ g2 x.2) := by
  intro cs hl hr
  have h1 := hr f (by simp)
  rw [ho, hn] at h1
  obtain ⟨x, x1, x2⟩ := h _ h1 (by rw [List.length_take, List.length_drop, hn]; omega)
  obtain ⟨y, y1, y2⟩ := t cs hl (fun g hg => hr g (by simp [hg]))
  refine ⟨(x, y), ⟨x1, y1⟩, (cs.drop o).take n, cs.drop (o + n), ?_, x2, y2⟩
  rw [← List.drop_drop, List.take_append_drop]
theorem RdK.struct {α : Type} {d : Kd α} {t : TypeId} {fs : Array Field} {m : Nat} {good : α → Prop} (ht : P.underlying t = some (.struct fs)) (hm : P.cellsOf t = m) (h : RdF enc P W d fs.toList 0 m good) : RdK enc P W d t good := by
  rintro cs ⟨fuel, x, hr⟩ hl
  obtain ⟨xs, n, _, rfl, hl2, hlen, hf⟩ := DataW.trod_struct ht hr
  have := h cs (hl.trans hm) (fun f hfm => by
    obtain ⟨i, hi⟩ := List.mem_iff_getElem?.1 hfm
    have hi : fs[i]? = some f := by simpa using hi
    have hlt : i < xs.length := by
      have := (Array.getElem?_eq_some_iff.1 hi).1
      simp_all
    have := hf i f hi
    exact ⟨n, xs[i], by simpa [List.getElem?_eq_getElem hlt] using this⟩)
  simpa using this
theorem spot_none {a : Addr} {v : Value} (h : W.cell? a = some v) : a.spot = none := by
  unfold World.cell? at h
  split at h
  · split at h
    · cases h
    · rename_i hn; cases hs : a.spot with
      | none => rfl
      | some x => rw [hs] at hn; exact absurd rfl hn
  · cases h
theorem addr_add {a : Addr} (hs : a.spot = none) (i : Nat) : a.add i = ⟨a.block, a.off + i, none⟩ := by
  unfold Addr.add
  split
  · rename_i h; subst h; obtain ⟨b, o, s⟩ := a; simp only at hs; subst hs; rfl
  · rfl
theorem RdK.slice {α : Type} {d : Kd α} {t e e' : TypeId} {good : α → Prop} (ht : P.underlying t = some (.slice e)) (hc : P.cellsOf e = d.sz) (hk : 1 ≤ d.sz) (h : RdK enc P W d e good) :
    RdK enc P W (Kd.slice e' d) t (fun l => l.length ≤ maxLen ∧ ∀ x ∈ l, good x) := by
  rintro cs ⟨fuel, x, hr⟩ _
  rcases Go.Deep.open_slice ht hr with ⟨rfl, _⟩ | ⟨a, len, cap, m, n, D, Pl, rfl, _, hl, hm, hmm, _, hx⟩
  · exact ⟨[], ⟨Nat.zero_le _, by simp⟩, none, 0, rfl, Nat.le_refl _, rfl, by simp, fun h0 => by simp at h0⟩
  · simp only [if_true] at hmm
    by_cases h0 : len = 0
    · subst h0
      exact ⟨[], ⟨Nat.zero_le _, by simp⟩, some a, cap, rfl, Nat.zero_le _, rfl, by simp, fun h0 => by simp at h0⟩
    have at_ : ∀ i, i < len → ∃ (x : α) (cs : List Value), W.cells? 0 (a.add (i * d.sz)) d.sz = some cs ∧ good x ∧ d.K W x cs := by
      intro i hi
      obtain ⟨cs', h1, h2⟩ := hx i (by omega)
      rw [hc] at h1
      obtain ⟨_, hlen, _⟩ := World.cells?_some h1
      obtain ⟨x, q1, q2⟩ := h cs' ⟨_, _, h2⟩ (hlen.trans hc.symm)
      exact ⟨x, cs', h1, q1, q2⟩
    obtain ⟨x0, cs0, z1, _, _⟩ := at_ 0 (by omega)
    have hsp : a.spot = none := by
      obtain ⟨_, s1, s2⟩ := World.cells?_some z1
      have h00 := s2 0 (by omega)
      have hzz : (a.add (0 * d.sz)).add 0 = a := by simp [Addr.add]
      rw [hzz] at h00
      rw [List.getElem?_eq_getElem (by omega)] at h00
      exact spot_none h00
    have each : ∀ i, ∃ (x : α) (cs : List Value), i < len → (W.cells? 0 (a.add (i * d.sz)) d.sz = some cs ∧ good x ∧ d.K W x cs) := by
      intro i
      by_cases hi : i < len
      · obtain ⟨x, cs, q⟩ := at_ i hi
        exact ⟨x, cs, fun _ => q⟩
      · exact ⟨x0, [], fun h => absurd h hi⟩
    obtain ⟨X, hX⟩ := Classical.axiomOfChoice each
    obtain ⟨C, hC⟩ := Classical.axiomOfChoice hX
    have hmx : len ≤ 9223372036854775807 := by have : maxLen = 9223372036854775807 := rfl; omega
    refine ⟨(List.range len).map X, ⟨by simp; omega, fun x hx => ?_⟩, some a, cap, by simp, by simpa using hl, by simp, by simpa using hmx, fun _ => ⟨a, rfl, fun i x hi => ?_⟩⟩
    · obtain ⟨i, hi, rfl⟩ := List.mem_map.1 hx
      exact (hC i (List.mem_range.1 hi)).2.1
    · have hilt : i < len := by have := (List.getElem?_eq_some_iff.1 hi).1; simpa using this
      have hx : X i = x := by simpa [hilt] using hi
      obtain ⟨q1, q2, q3⟩ := hC i hilt
      obtain ⟨_, r1, r2⟩ := World.cells?_some q1
      refine ⟨C i, r1, hx ▸ q3, fun j u hj => ?_⟩
      have hjl : j < (C i).length := (List.getElem?_eq_some_iff.1 hj).1
      have h2 := r2 j (by omega)
      rw [addr_add hsp, addr_add rfl] at h2
      rw [addr_add hsp, ← Nat.add_assoc, h2]; exact hj
end Go.Rd

namespace Go.Proofs.Ytjjagjehaoidbaa.rankOrder
open Go.ChangeShapes Go.WideShapes Go.ChangeAt Go.RowKit Go.Rd Go.Proofs.YtjjagjehaoidbaaW.PrintWords
open Go.ChangeMaps (open_string shut_string)
set_option linter.unusedVariables false
theorem own : ownKnob Try.prog.godebug = none := by kernel_rfl
theorem laidOut : laidOutB Try.prog = true := by kernel_rfl
theorem rd24 {H : Type} {enc : TypeId × Value → H} {W : World} : RdK enc Try.prog W Go.Proofs.Ytjjagjehaoidbaa.P.k24 24 (fun x => (Lit.int .i64 x.f0).wf = true ∧ (Lit.int .i64 x.f1).wf = true) :=
  RdK.iso (RdK.struct (m := 2) Try.underlying24 (by kernel_rfl) (RdF.cons (o := 0) (n := 1) (RdK.int Try.underlying3) rfl (by kernel_rfl) (by decide) (RdF.last (o := 1) (n := 1) (RdK.int Try.underlying3) rfl (by kernel_rfl) rfl))) (fun p => ⟨p.1, p.2⟩) (fun _ => rfl)
theorem rd34 {H : Type} {enc : TypeId × Value → H} {W : World} : RdK enc Try.prog W Go.Proofs.Ytjjagjehaoidbaa.P.k34 34 (fun x => ((Lit.int .i64 x.f0.f0).wf = true ∧ (Lit.int .i64 x.f0.f1).wf = true) ∧ (Lit.int .i64 x.f1).wf = true ∧ (Lit.int .i64 x.f2).wf = true ∧ (Lit.int .i64 x.f3).wf = true ∧ (Lit.int .i64 x.f4).wf = true) :=
  RdK.iso (RdK.struct (m := 6) Try.underlying34 (by kernel_rfl) (RdF.cons (o := 0) (n := 2) rd24 rfl (by kernel_rfl) (by decide) (RdF.cons (o := 2) (n := 1) (RdK.int Try.underlying3) rfl (by kernel_rfl) (by decide) (RdF.cons (o := 3) (n := 1) (RdK.int Try.underlying3) rfl (by kernel_rfl) (by decide) (RdF.cons (o := 4) (n := 1) (RdK.int Try.underlying3) rfl (by kernel_rfl) (by decide) (RdF.last (o := 5) (n := 1) (RdK.int Try.underlying3) rfl (by kernel_rfl) rfl)))))) (fun p => ⟨p.1, p.2.1, p.2.2.1, p.2.2.2.1, p.2.2.2.2⟩) (fun _ => rfl)
set_option maxRecDepth 100000 in
theorem lifted (os : Os) (started : os.Started) (H : Type) (enc : TypeId × Value → H) :
    ReturnsInHanded {} Try.checked os 4 .any (Rows.rankOrderSpec.pre6 enc Try.prog Try.f4 Rows.rankOrderRow.domain false) (Rows.rankOrderSpec.post enc Try.prog Try.f4 false true false false) := by
  refine returnsInHanded_of_change_sized (C := Try.checked) own started (by kernel_rfl) Try.func4
    (ChangeSpec.witness6 (enc := enc) (C := Try.checked) false ⟨#[], #[.agg #[.int .i64 0, .int .i64 0, .int .i64 0, .int .i64 0, .int .i64 0, .int .i64 0], .agg #[.int .i64 0, .int .i64 0, .int .i64 0, .int .i64 0, .int .i64 0, .int .i64 0], .agg #[.int .i64 0, .int .i64 0, .int .i64 0, .int .i64 0, .int .i64 0, .int .i64 0]], []⟩ 8 (by kernel_rfl) (by kernel_rfl) (by kernel_rfl) (by kernel_rfl)) ?_
  intro W base args ds gs before hval0 hW hcnd hsz0 _
  have hval : ∀ (j : Nat) t v, Try.f4.params[j]? = some t → args[j]? = some v → Value.okWide Try.prog W .any base t v := hval0
  have hW' := hW
  obtain ⟨p, q, hA0, hV, rfl, hfz, hnd⟩ := hW
  have hA : DataW.TrodAll enc Try.prog W 0 (fun _ => true) true Try.f4.params.toList args.toList ds p := hA0
  rw [Try.params4] at hA hval
  obtain ⟨v0, vs0, d0, ds0, p0, q0, hargs, rfl, rfl, h0, r0⟩ := trodAll_cons hA
  obtain ⟨v1, vs1, d1, ds1, p1, q1, rfl, rfl, rfl, h1, r1⟩ := trodAll_cons r0
  obtain ⟨v2, vs2, d2, ds2, p2, q2, rfl, rfl, rfl, h2, r2⟩ := trodAll_cons r1
  obtain ⟨rfl, rfl, rfl⟩ := trodAll_nil r2
  obtain rfl : args = #[v0, v1, v2] := by cases args; simp_all
  obtain ⟨rfl, rfl⟩ := trodVars_none hV
  have k0 := h0
  have lt0 : ∀ x ∈ p0, x.block < W.heap.size := by obtain ⟨m, hm⟩ := k0; exact DataW.trod_lt m _ _ _ hm
  obtain ⟨cs0, rfl, hz0⟩ := okWide_struct Try.underlying34 (hval 0 34 v0 rfl rfl)
  obtain ⟨x0, g0, hk0⟩ := rd34 _ (Read.of h0) (by simpa [Value.cells] using hz0)
  obtain rfl : cs0 = #[.int .i64 x0.f0.f0, .int .i64 x0.f0.f1, .int .i64 x0.f1, .int .i64 x0.f2, .int .i64 x0.f3, .int .i64 x0.f4] := Array.toList_inj.1 (Go.Proofs.Ytjjagjehaoidbaa.P.k34_open hk0)
  have k1 := h1
  have lt1 : ∀ x ∈ p1, x.block < W.heap.size := by obtain ⟨m, hm⟩ := k1; exact DataW.trod_lt m _ _ _ hm
  obtain ⟨cs1, rfl, hz1⟩ := okWide_struct Try.underlying34 (hval 1 34 v1 rfl rfl)
  obtain ⟨x1, g1, hk1⟩ := rd34 _ (Read.of h1) (by simpa [Value.cells] using hz1)
  obtain rfl : cs1 = #[.int .i64 x1.f0.f0, .int .i64 x1.f0.f1, .int .i64 x1.f1, .int .i64 x1.f2, .int .i64 x1.f3, .int .i64 x1.f4] := Array.toList_inj.1 (Go.Proofs.Ytjjagjehaoidbaa.P.k34_open hk1)
  have k2 := h2
  have lt2 : ∀ x ∈ p2, x.block < W.heap.size := by obtain ⟨m, hm⟩ := k2; exact DataW.trod_lt m _ _ _ hm
  obtain ⟨cs2, rfl, hz2⟩ := okWide_struct Try.underlying34 (hval 2 34 v2 rfl rfl)
  obtain ⟨x2, g2, hk2⟩ := rd34 _ (Read.of h2) (by simpa [Value.cells] using hz2)
  obtain rfl : cs2 = #[.int .i64 x2.f0.f0, .int .i64 x2.f0.f1, .int .i64 x2.f1, .int .i64 x2.f2, .int .i64 x2.f3, .int .i64 x2.f4] := Array.toList_inj.1 (Go.Proofs.Ytjjagjehaoidbaa.P.k34_open hk2)
  clear hA0 hval0 hsz0
  refine (Go.Proofs.Ytjjagjehaoidbaa.order_calls x0.f0.f0 x0.f0.f1 x0.f1 x0.f2 x0.f3 x0.f4 x1.f0.f0 x1.f0.f1 x1.f1 x1.f2 x1.f3 x1.f4 x2.f0.f0 x2.f0.f1 x2.f1 x2.f2 x2.f3 x2.f4 W ).mono fun e W' he => ?_
  obtain ⟨rfl, bel⟩ := he
  exact ⟨_, rfl, _, _, _, [], _, [], hW', trodAll_mk1 (shut_bool Try.underlying4 _), (trodAll_cons_mk (Below.trod laidOut (by kernel_rfl) (of_decide_eq_true (by kernel_rfl)) k0 bel lt0) (trodAll_cons_mk (Below.trod laidOut (by kernel_rfl) (of_decide_eq_true (by kernel_rfl)) k1 bel lt1) (trodAll_cons_mk (Below.trod laidOut (by kernel_rfl) (of_decide_eq_true (by kernel_rfl)) k2 bel lt2) trodAll_mk0))), rfl, bel.frame _, fun h => by cases h⟩
theorem over : Rows.rankOrderRow.holds Try.pinned (OpenSpec.ofChange Rows.rankOrderSpec) :=
  OpenClaim.holds_of_wide 4 Try.f4 rfl rfl rfl rfl rfl rfl rfl ⟨rfl, rfl, rfl, rfl, rfl⟩ rfl rfl rfl rfl rfl (by kernel_rfl) Try.func4 (by kernel_rfl)
    (of_decide_eq_true (by kernel_rfl)) (by unfold Func.isWrapper; first | (rw [if_pos (by decide +kernel)]; kernel_rfl) | (rw [if_neg (by decide +kernel)]; exact ⟨rfl, rfl⟩))
    (fun os started H enc _ => lifted os started H enc)
end Go.Proofs.Ytjjagjehaoidbaa.rankOrder
namespace Go.Proofs.Ytjjagjehaoidbaa
theorem rankOrder_holds : Rows.RankOrderSaid := rankOrder.over
end Go.Proofs.Ytjjagjehaoidbaa

