/- Part 3 of the proof of RankOrder. -/
import Derived.Test.YtjjagjehaoidbaaA2
set_option linter.unusedVariables false
set_option linter.unusedSimpArgs false
set_option linter.unusedSectionVars false
namespace Go.Proofs.Ytjjagjehaoidbaa.P
open Go.RowKit Go.Proofs.YtjjagjehaoidbaaW.PrintWords Go.Proofs.YtjjagjehaoidbaaW.PrintLast Go.Proofs.YtjjagjehaoidbaaW.PrintMore
attribute [local go_sem] max2_int min2_int max_two min_two max_three min_three max_four min_four
set_option linter.unusedVariables false
set_option linter.unusedSimpArgs false
mutual
def watchmanref07_Sort.l0 : Nat → List (S34) → List (S34) → Int → Option ((List (S34)))
  | 0, _, _, _ => none
  | k + 1, x0, x3, x4 => if x4 < (x0.length : Int) then (watchmanref07_Sort.l1 k x0 x3 x4 0) else (some x3)
def watchmanref07_Sort.l1 : Nat → List (S34) → List (S34) → Int → Int → Option ((List (S34)))
  | 0, _, _, _, _ => none
  | k + 1, x0, x3, x4, x5 => if x5 < (x3.length : Int) then (if 0 ≤ x5 then (if 0 ≤ x4 then (if x4 < (x0.length : Int) then ((watchmanref07_Compare.f k ((rd_T34 x3 x5).f0.f0) ((rd_T34 x3 x5).f0.f1) ((rd_T34 x3 x5).f1) ((rd_T34 x3 x5).f2) ((rd_T34 x3 x5).f3) ((rd_T34 x3 x5).f4) ((rd_T34 x0 x4).f0.f0) ((rd_T34 x0 x4).f0.f1) ((rd_T34 x0 x4).f1) ((rd_T34 x0 x4).f2) ((rd_T34 x0 x4).f3) ((rd_T34 x0 x4).f4)).bind fun t129 => (if t129 ≤ 0 then (watchmanref07_Sort.l1 k x0 x3 x4 (wrap64 (x5 + 1))) else (if x5 ≤ (x3.length : Int) then ((some (x3.take (x5 : Int).toNat : List (S34))).bind fun y130 => (if ([] : List (S34)).length + y130.length < 2932031007402 then ((some (([] : List (S34)) ++ y130 : List (S34))).bind fun y134 => (if y134.length < 2932031007402 then ((some (y134 ++ [(⟨(⟨(rd_T34 x0 x4).f0.f0, (rd_T34 x0 x4).f0.f1⟩ : S24), (rd_T34 x0 x4).f1, (rd_T34 x0 x4).f2, (rd_T34 x0 x4).f3, (rd_T34 x0 x4).f4⟩ : S34)] : List (S34))).bind fun y138 => ((some (x3.drop (x5 : Int).toNat : List (S34))).bind fun y141 => (if y138.length + y141.length < 2932031007402 then (watchmanref07_Sort.l0 k x0 (y138 ++ y141) (wrap64 (x4 + 1))) else (none)))) else (none))) else (none))) else (none)))) else (none)) else (none)) else (none)) else (if 0 ≤ x5 then (if x5 ≤ (x3.length : Int) then ((some (x3.take (x5 : Int).toNat : List (S34))).bind fun y148 => (if ([] : List (S34)).length + y148.length < 2932031007402 then ((some (([] : List (S34)) ++ y148 : List (S34))).bind fun y152 => (if 0 ≤ x4 then (if x4 < (x0.length : Int) then (if y152.length < 2932031007402 then ((some (y152 ++ [(⟨(⟨(rd_T34 x0 x4).f0.f0, (rd_T34 x0 x4).f0.f1⟩ : S24), (rd_T34 x0 x4).f1, (rd_T34 x0 x4).f2, (rd_T34 x0 x4).f3, (rd_T34 x0 x4).f4⟩ : S34)] : List (S34))).bind fun y156 => ((some (x3.drop (x5 : Int).toNat : List (S34))).bind fun y159 => (if y156.length + y159.length < 2932031007402 then (watchmanref07_Sort.l0 k x0 (y156 ++ y159) (wrap64 (x4 + 1))) else (none)))) else (none)) else (none)) else (none))) else (none))) else (none)) else (none))
end
def watchmanref07_Sort.f (k : Nat) (l0 : List (S34)) : Option ((List (S34))) := watchmanref07_Sort.l0 k l0 ([] : List (S34)) 0
theorem watchmanref07_Sort.mono_l : ∀ k, (∀ y0 y1 y2, LeO (watchmanref07_Sort.l0 k y0 y1 y2) (watchmanref07_Sort.l0 (k + 1) y0 y1 y2)) ∧ (∀ y0 y1 y2 y3, LeO (watchmanref07_Sort.l1 k y0 y1 y2 y3) (watchmanref07_Sort.l1 (k + 1) y0 y1 y2 y3))
  | 0 => ⟨fun _ _ _ r h => by simp [watchmanref07_Sort.l0] at h, fun _ _ _ _ r h => by simp [watchmanref07_Sort.l1] at h⟩
  | k + 1 => by
    obtain ⟨ih0, ih1⟩ := watchmanref07_Sort.mono_l k
    refine ⟨?_, ?_⟩
    · intro y0 y1 y2
      unfold watchmanref07_Sort.l0
      repeat' first
      | (with_reducible exact ih0 _ _ _)
      | (with_reducible exact ih1 _ _ _ _)
      | (with_reducible exact watchmanref07_Compare.mono _ _ _ _ _ _ _ _ _ _ _ _ _)
      | (with_reducible exact LeO.refl _)
      | (with_reducible exact LeO.none _)
      | (with_reducible refine LeO.ite ?_ ?_)
      | (with_reducible refine LeO.bind ?_ (fun _ => ?_))
      | exact ih0 _ _ _
      | exact ih1 _ _ _ _
      | exact watchmanref07_Compare.mono _ _ _ _ _ _ _ _ _ _ _ _ _
      | exact LeO.none _
      | refine LeO.ite ?_ ?_
      | refine LeO.bind ?_ (fun _ => ?_)
    · intro y0 y1 y2 y3
      unfold watchmanref07_Sort.l1
      repeat' first
      | (with_reducible exact ih0 _ _ _)
      | (with_reducible exact ih1 _ _ _ _)
      | (with_reducible exact watchmanref07_Compare.mono _ _ _ _ _ _ _ _ _ _ _ _ _)
      | (with_reducible exact LeO.refl _)
      | (with_reducible exact LeO.none _)
      | (with_reducible refine LeO.ite ?_ ?_)
      | (with_reducible refine LeO.bind ?_ (fun _ => ?_))
      | exact ih0 _ _ _
      | exact ih1 _ _ _ _
      | exact watchmanref07_Compare.mono _ _ _ _ _ _ _ _ _ _ _ _ _
      | exact LeO.none _
      | refine LeO.ite ?_ ?_
      | refine LeO.bind ?_ (fun _ => ?_)
theorem watchmanref07_Sort.mono : ∀ a0 k, LeO (watchmanref07_Sort.f k a0) (watchmanref07_Sort.f (k + 1) a0) := by
  intro a0 k
  obtain ⟨ih0, ih1⟩ := watchmanref07_Sort.mono_l k
  unfold watchmanref07_Sort.f
  repeat' first
      | (with_reducible exact ih0 _ _ _)
      | (with_reducible exact ih1 _ _ _ _)
      | (with_reducible exact watchmanref07_Compare.mono _ _ _ _ _ _ _ _ _ _ _ _ _)
      | (with_reducible exact LeO.refl _)
      | (with_reducible exact LeO.none _)
      | (with_reducible refine LeO.ite ?_ ?_)
      | (with_reducible refine LeO.bind ?_ (fun _ => ?_))
      | exact ih0 _ _ _
      | exact ih1 _ _ _ _
      | exact watchmanref07_Compare.mono _ _ _ _ _ _ _ _ _ _ _ _ _
      | exact LeO.none _
      | refine LeO.ite ?_ ?_
      | refine LeO.bind ?_ (fun _ => ?_)
def watchmanref07_Sort.T6 : Bool × List (List Nat × List Nat) := (true, [([], []), ([], []), ([1], [1]), ([0, 2], [0, 2]), ([3], [3]), ([4], [4]), ([4], [4]), ([5, 6, 4], [4, 5, 6]), ([7, 4], [4, 7]), ([4], [4]), ([4], [4]), ([9, 10, 4], [4, 9, 10]), ([11, 4], [4, 11]), ([8, 12, 4, 4], [4, 8, 12]), ([13, 4], [4, 13]), ([4, 14], [4, 14])])
def watchmanref07_Sort.B6 : List Nat := [0, 0, 2, 7, 15, 31, 31, 127, 255, 31, 31, 1567, 3615, 8191, 16383, 32767]
theorem watchmanref07_Sort.tab6 : rtab .any (opsOf Try.f15 6) = watchmanref07_Sort.T6 := by kernel_rfl
theorem watchmanref07_Sort.bits6 : waitsOk watchmanref07_Sort.T6.2 watchmanref07_Sort.B6 = true := by kernel_rfl
set_option maxHeartbeats 8000000 in
set_option maxRecDepth 100000 in
theorem watchmanref07_Sort.calls (k : Nat) (A0 : Option Addr) (c0 : Nat) (l0 : List (S34)) (r : List (S34)) (w : World) (hr0 : Kd.C k34 w A0 l0.length l0) (hc0 : l0.length ≤ c0) (h : watchmanref07_Sort.f k l0 = some r) :
    Calls Try.prog 15 #[.slice A0 l0.length c0] w fun e w' => ∃ v0_ : Value, e = .returned (v0_) ∧ Kd.R k34 34 w' w.heap.size (fun _ => True) v0_ r ∧ Below w.heap.size w w' := by
  have hu34 := Try.underlying34
  have HR0 := Aside0.mk hr0
  have HC0 := Aside0.mk hc0
  clear hr0 hc0
  have HB := Aside0.mk (Below.refl w.heap.size w)
  have H : (watchmanref07_Sort.l0 k l0 ([] : List (S34)) 0) = some r := h
  clear h
  have H' := Aside0.mk H
  clear H
  go_enter Try.func15, Try.ntmps15
  go_wp2
  go_loopg [3, 4] k (fun kq v3 v4 w' => ∃ (x3_1 : List (S34)) (x4_1 : Int), v4 = .int .i64 x4_1 ∧ Aside0 (watchmanref07_Sort.l0 kq l0 x3_1 x4_1 = some r) ∧ Aside0 (kq ≤ k) ∧ Aside0 (Kd.R k34 34 w' w.heap.size (fun _ => True) v3 x3_1) ∧ Aside0 (Below w.heap.size w w'))
  case atStart => exact ⟨(([] : List (S34))), (0), (by first | rfl | (simp; done) | (simp [*]; done)), H', ⟨Nat.le_refl _⟩, ⟨by first | exact Kd.R_nil _ _ _ _ _ | exact Kd.N_nil _ _ _ _ _ | exact Kd.V_nil _ _ _ _ _ | exact Kd.Q_nil _ _ _ _ _ | exact Kd.S_nil _ _ _ _ _⟩, ⟨by repeat (first | (with_reducible first | exact HB.out | apply below_alloc | apply pw_below_drewN | apply below_drew1) | exact HB.out)⟩⟩
  case round =>
    clear H'
    try clear c1
    obtain ⟨x3_1, x4_1, rfl, HA, HK1, HO_3, HB⟩ := hrel
    cases gk with
    | zero => exact absurd HA.out (by simp [watchmanref07_Sort.l0])
    | succ k1 =>
      have H := HA.out
      clear HA
      simp only [watchmanref07_Sort.l0] at H
      by_cases c2 : x4_1 < (l0.length : Int)
      · rw [if_pos c2] at H
        have c2b0 : decide (x4_1 < (l0.length : Int)) = true := decide_eq_true c2
        clear c2
        have H' := Aside0.mk H
        clear H
        go_wp2
        go_loopg [5] k1 (fun kq v5 w' => ∃ (x5_2 : Int), v5 = .int .i64 x5_2 ∧ Aside0 (watchmanref07_Sort.l1 kq l0 x3_1 x4_1 x5_2 = some r) ∧ Aside0 (kq ≤ k1) ∧ Aside0 (Kd.R k34 34 w' w.heap.size (fun _ => True) u3 x3_1) ∧ Aside0 (Below w.heap.size w w'))
        case atStart => exact ⟨(0), (by first | rfl | (simp; done) | (simp [*]; done)), H', ⟨Nat.le_refl _⟩, ⟨by (with_reducible repeat (first | apply Kd.R_alloc | apply Kd.R_drewN | apply Kd.R_drew)); exact HO_3.out⟩, ⟨by repeat (first | (with_reducible first | exact HB.out | apply below_alloc | apply pw_below_drewN | apply below_drew1) | exact HB.out)⟩⟩
        case round =>
          clear H'
          try clear c1
          try clear c2
          try clear c2b0
          try clear p2
          obtain ⟨x5_2, rfl, HA, HK2, HO_3, HB⟩ := hrel
          cases gk with
          | zero => exact absurd HA.out (by simp [watchmanref07_Sort.l1])
          | succ k2 =>
            have H := HA.out
            clear HA
            simp only [watchmanref07_Sort.l1] at H
            by_cases c3 : x5_2 < (x3_1.length : Int)
            · rw [if_pos c3] at H
              have c3b0 : decide (x5_2 < (x3_1.length : Int)) = true := decide_eq_true c3
              clear c3
              by_cases c4 : 0 ≤ x5_2
              · rw [if_pos c4] at H
                have c4b0 : decide (0 ≤ x5_2) = true := decide_eq_true c4
                clear c4
                by_cases c5 : 0 ≤ x4_1
                · rw [if_pos c5] at H
                  have c5b0 : decide (0 ≤ x4_1) = true := decide_eq_true c5
                  clear c5
                  by_cases c6 : x4_1 < (l0.length : Int)
                  · rw [if_pos c6] at H
                    have c6b0 : decide (x4_1 < (l0.length : Int)) = true := decide_eq_true c6
                    clear c6
                    replace H := Option.bind_eq_some_iff.mp H
                    obtain ⟨t129, A70, H⟩ := H
                    replace H : (if t129 ≤ 0 then (watchmanref07_Sort.l1 k2 l0 x3_1 x4_1 (wrap64 (x5_2 + 1))) else (if x5_2 ≤ (x3_1.length : Int) then ((some (x3_1.take (x5_2 : Int).toNat : List (S34))).bind fun y130 => (if ([] : List (S34)).length + y130.length < 2932031007402 then ((some (([] : List (S34)) ++ y130 : List (S34))).bind fun y134 => (if y134.length < 2932031007402 then ((some (y134 ++ [(⟨(⟨(rd_T34 l0 x4_1).f0.f0, (rd_T34 l0 x4_1).f0.f1⟩ : S24), (rd_T34 l0 x4_1).f1, (rd_T34 l0 x4_1).f2, (rd_T34 l0 x4_1).f3, (rd_T34 l0 x4_1).f4⟩ : S34)] : List (S34))).bind fun y138 => ((some (x3_1.drop (x5_2 : Int).toNat : List (S34))).bind fun y141 => (if y138.length + y141.length < 2932031007402 then (watchmanref07_Sort.l0 k2 l0 (y138 ++ y141) (wrap64 (x4_1 + 1))) else (none)))) else (none))) else (none))) else (none))) = some r := H
                    have A7 := Aside0.mk A70
                    clear A70
                    by_cases c8 : t129 ≤ 0
                    · rw [if_pos c8] at H
                      have c8b0 : decide (t129 ≤ 0) = true := decide_eq_true c8
                      clear c8
                      have H' := Aside0.mk H
                      clear H
                      try go_wp2
                      have n0_ := Aside0.mk (Kd.R_drew HO_3.out)
                      have n1_ := Aside0.mk (below_drew1 HB.out)
                      clear HO_3
                      clear HB
                      have HO_3 := n0_
                      have HB := n1_
                      clear n0_ n1_
                      obtain ⟨Ao10, co10, eo10⟩ := Kd.R_slice HO_3.out
                      (first | subst eo10 | (injection eo10 with f1_ f2_ f3_; have f4_ := f1_.symm; have f5_ := f3_.symm; clear f1_ f2_ f3_; subst f4_; subst f5_))
                      have p127 : 0 ≤ (x5_2 : Int) := of_decide_eq_true (by first | (with_reducible assumption) | assumption)
                      have q127 : x5_2 < (x3_1.length : Int) := of_decide_eq_true (by first | (with_reducible assumption) | assumption)
                      obtain ⟨ad127, e127, hx127_0, hx127_1, hx127_2, hx127_3, hx127_4, hx127_5⟩ := at_T34 (Kd.R_reads' HO_3.out).2.2 x5_2 p127 q127
                      cases e127
                      replace p127 := eq_true p127
                      replace q127 := eq_true q127
                      have p128 : 0 ≤ (x4_1 : Int) := of_decide_eq_true (by first | (with_reducible assumption) | assumption)
                      have q128 : x4_1 < (l0.length : Int) := of_decide_eq_true (by first | (with_reducible assumption) | assumption)
                      obtain ⟨ad128, e128, hx128_0, hx128_1, hx128_2, hx128_3, hx128_4, hx128_5⟩ := at_T34 HR0.out x4_1 p128 q128
                      have hw128_5 := hx128_5
                      have hw128_4 := hx128_4
                      have hw128_3 := hx128_3
                      have hw128_2 := hx128_2
                      have hw128_1 := hx128_1
                      have hw128_0 := hx128_0
                      cases e128
                      replace hx128_0 := (HB.out.cell (World.block_lt_of_cell? w _ hx128_0)).trans hx128_0
                      replace hx128_1 := (HB.out.cell (World.block_lt_of_cell? w _ hx128_1)).trans hx128_1
                      replace hx128_2 := (HB.out.cell (World.block_lt_of_cell? w _ hx128_2)).trans hx128_2
                      replace hx128_3 := (HB.out.cell (World.block_lt_of_cell? w _ hx128_3)).trans hx128_3
                      replace hx128_4 := (HB.out.cell (World.block_lt_of_cell? w _ hx128_4)).trans hx128_4
                      replace hx128_5 := (HB.out.cell (World.block_lt_of_cell? w _ hx128_5)).trans hx128_5
                      replace p128 := eq_true p128
                      replace q128 := eq_true q128
                      refine start_ (n := 16) (S := fun w' => w'.cell? (ad127.add ((x5_2).toNat * 6)) = some (.int .i64 ((rd_T34 x3_1 x5_2).f0.f0)) ∧ w'.cell? ⟨(ad127.add ((x5_2).toNat * 6)).block, (ad127.add ((x5_2).toNat * 6)).off + 1, none⟩ = some (.int .i64 ((rd_T34 x3_1 x5_2).f0.f1)) ∧ w'.cell? ⟨(ad127.add ((x5_2).toNat * 6)).block, (ad127.add ((x5_2).toNat * 6)).off + 2, none⟩ = some (.int .i64 ((rd_T34 x3_1 x5_2).f1)) ∧ w'.cell? ⟨(ad127.add ((x5_2).toNat * 6)).block, (ad127.add ((x5_2).toNat * 6)).off + 3, none⟩ = some (.int .i64 ((rd_T34 x3_1 x5_2).f2)) ∧ w'.cell? ⟨(ad127.add ((x5_2).toNat * 6)).block, (ad127.add ((x5_2).toNat * 6)).off + 4, none⟩ = some (.int .i64 ((rd_T34 x3_1 x5_2).f3)) ∧ w'.cell? ⟨(ad127.add ((x5_2).toNat * 6)).block, (ad127.add ((x5_2).toNat * 6)).off + 5, none⟩ = some (.int .i64 ((rd_T34 x3_1 x5_2).f4)) ∧ w'.cell? (ad128.add ((x4_1).toNat * 6)) = some (.int .i64 ((rd_T34 l0 x4_1).f0.f0)) ∧ w'.cell? ⟨(ad128.add ((x4_1).toNat * 6)).block, (ad128.add ((x4_1).toNat * 6)).off + 1, none⟩ = some (.int .i64 ((rd_T34 l0 x4_1).f0.f1)) ∧ w'.cell? ⟨(ad128.add ((x4_1).toNat * 6)).block, (ad128.add ((x4_1).toNat * 6)).off + 2, none⟩ = some (.int .i64 ((rd_T34 l0 x4_1).f1)) ∧ w'.cell? ⟨(ad128.add ((x4_1).toNat * 6)).block, (ad128.add ((x4_1).toNat * 6)).off + 3, none⟩ = some (.int .i64 ((rd_T34 l0 x4_1).f2)) ∧ w'.cell? ⟨(ad128.add ((x4_1).toNat * 6)).block, (ad128.add ((x4_1).toNat * 6)).off + 4, none⟩ = some (.int .i64 ((rd_T34 l0 x4_1).f3)) ∧ w'.cell? ⟨(ad128.add ((x4_1).toNat * 6)).block, (ad128.add ((x4_1).toNat * 6)).off + 5, none⟩ = some (.int .i64 ((rd_T34 l0 x4_1).f4))) (ds := []) #[false, false, false, false, false, false, false, false, false, false, false, false, false, false, false, false] (by kernel_rfl) rfl rfl ⟨hx127_0, hx127_1, hx127_2, hx127_3, hx127_4, hx127_5, ((HB.out.cell (World.block_lt_of_cell? w _ hw128_0)).trans hw128_0), ((HB.out.cell (World.block_lt_of_cell? w _ hw128_1)).trans hw128_1), ((HB.out.cell (World.block_lt_of_cell? w _ hw128_2)).trans hw128_2), ((HB.out.cell (World.block_lt_of_cell? w _ hw128_3)).trans hw128_3), ((HB.out.cell (World.block_lt_of_cell? w _ hw128_4)).trans hw128_4), ((HB.out.cell (World.block_lt_of_cell? w _ hw128_5)).trans hw128_5)⟩ (fun hHeld => ?_); refine with_tabW watchmanref07_Sort.tab6 watchmanref07_Sort.bits6 (fun HT_ HW_ => ?_)
                      generalize wr.drew = w9 at HO_3 HB hx127_0 hx127_1 hx127_2 hx127_3 hx127_4 hx127_5 hx128_0 hx128_1 hx128_2 hx128_3 hx128_4 hx128_5 hHeld ⊢
                      refine pure_ (i := 0) (N := some 13) (v := ?_) (a' := ?_) #[true, false, false, false, false, false, false, false, false, false, false, false, false, false, false, false] rfl rfl (any_of HT_.out (by kernel_rfl)) (fun _ _ _ h => h) (Or.inl ⟨by rfl, ?_⟩) ?_ ?_
                      rotate_left
                      · intro w'
                        go_simp
                        with_reducible rfl
                      rotate_left
                      · simp only [Act.put, List.setIfInBounds_toArray, List.set_cons_zero, List.set_cons_succ, i64_w, i32_w]
                        rfl
                      refine pure_ (i := 1) (N := some 14) (v := ?_) (a' := ?_) #[true, true, false, false, false, false, false, false, false, false, false, false, false, false, false, false] rfl rfl (any_of HT_.out (by kernel_rfl)) (fun _ _ _ h => h) (Or.inl ⟨by rfl, ?_⟩) ?_ ?_
                      rotate_left
                      · intro w'
                        go_simp
                        with_reducible rfl
                      rotate_left
                      · simp only [Act.put, List.setIfInBounds_toArray, List.set_cons_zero, List.set_cons_succ, i64_w, i32_w]
                        rfl
                      refine pure_ (i := 2) (N := some 15) (v := ?_) (a' := ?_) #[true, true, true, false, false, false, false, false, false, false, false, false, false, false, false, false] rfl rfl (any_of HT_.out (by kernel_rfl)) (fun _ _ _ h => h) (Or.inl ⟨by rfl, ?_⟩) ?_ ?_
                      rotate_left
                      · intro w'
                        go_simp
                        with_reducible rfl
                      rotate_left
                      · simp only [Act.put, List.setIfInBounds_toArray, List.set_cons_zero, List.set_cons_succ, i64_w, i32_w]
                        rfl
                      refine pure_ (i := 3) (N := some 16) (v := ?_) (a' := ?_) #[true, true, true, true, false, false, false, false, false, false, false, false, false, false, false, false] rfl rfl (any_of HT_.out (by kernel_rfl)) (fun _ _ _ h => h) (Or.inl ⟨by rfl, ?_⟩) ?_ ?_
                      rotate_left
                      · intro w'
                        go_simp
                        with_reducible rfl
                      rotate_left
                      · simp only [Act.put, List.setIfInBounds_toArray, List.set_cons_zero, List.set_cons_succ, i64_w, i32_w]
                        rfl
                      refine pure_ (i := 4) (N := some 17) (v := ?_) (a' := ?_) #[true, true, true, true, true, false, false, false, false, false, false, false, false, false, false, false] rfl rfl (any_of HT_.out (by kernel_rfl)) (fun _ _ _ h => h) (Or.inl ⟨by rfl, ?_⟩) ?_ ?_
                      rotate_left
                      · intro w'
                        go_simp
                        with_reducible rfl
                      rotate_left
                      · simp only [Act.put, List.setIfInBounds_toArray, List.set_cons_zero, List.set_cons_succ, i64_w, i32_w]
                        rfl
                      refine pure_ (i := 5) (N := some 18) (v := ?_) (a' := ?_) #[true, true, true, true, true, true, false, false, false, false, false, false, false, false, false, false] rfl rfl (any_of HT_.out (by kernel_rfl)) (fun _ _ _ h => h) (Or.inl ⟨by rfl, ?_⟩) ?_ ?_
                      rotate_left
                      · intro w'
                        go_simp
                        with_reducible rfl
                      rotate_left
                      · simp only [Act.put, List.setIfInBounds_toArray, List.set_cons_zero, List.set_cons_succ, i64_w, i32_w]
                        rfl
                      refine pure_ (i := 6) (N := some 19) (v := ?_) (a' := ?_) #[true, true, true, true, true, true, true, false, false, false, false, false, false, false, false, false] rfl rfl (any_of HT_.out (by kernel_rfl)) (fun _ _ _ h => h) (Or.inl ⟨by rfl, ?_⟩) ?_ ?_
                      rotate_left
                      · intro w'
                        go_simp
                        with_reducible rfl
                      rotate_left
                      · simp only [Act.put, List.setIfInBounds_toArray, List.set_cons_zero, List.set_cons_succ, i64_w, i32_w]
                        rfl
                      refine pure_ (i := 7) (N := some 20) (v := ?_) (a' := ?_) #[true, true, true, true, true, true, true, true, false, false, false, false, false, false, false, false] rfl rfl (any_of HT_.out (by kernel_rfl)) (fun _ _ _ h => h) (Or.inl ⟨by rfl, ?_⟩) ?_ ?_
                      rotate_left
                      · intro w'
                        go_simp
                        with_reducible rfl
                      rotate_left
                      · simp only [Act.put, List.setIfInBounds_toArray, List.set_cons_zero, List.set_cons_succ, i64_w, i32_w]
                        rfl
                      refine pure_ (i := 9) (N := some 22) (v := ?_) (a' := ?_) #[true, true, true, true, true, true, true, true, false, true, false, false, false, false, false, false] rfl rfl (any_of HT_.out (by kernel_rfl)) (fun _ _ _ h => h) (Or.inl ⟨by rfl, ?_⟩) ?_ ?_
                      rotate_left
                      · intro w'
                        go_simp
                        with_reducible rfl
                      rotate_left
                      · simp only [Act.put, List.setIfInBounds_toArray, List.set_cons_zero, List.set_cons_succ, i64_w, i32_w]
                        rfl
                      refine pure_ (i := 10) (N := some 23) (v := ?_) (a' := ?_) #[true, true, true, true, true, true, true, true, false, true, true, false, false, false, false, false] rfl rfl (any_of HT_.out (by kernel_rfl)) (fun _ _ _ h => h) (Or.inl ⟨by rfl, ?_⟩) ?_ ?_
                      rotate_left
                      · intro w'
                        go_simp
                        with_reducible rfl
                      rotate_left
                      · simp only [Act.put, List.setIfInBounds_toArray, List.set_cons_zero, List.set_cons_succ, i64_w, i32_w]
                        rfl
                      refine pure_ (i := 11) (N := some 24) (v := ?_) (a' := ?_) #[true, true, true, true, true, true, true, true, false, true, true, true, false, false, false, false] rfl rfl (any_of HT_.out (by kernel_rfl)) (fun _ _ _ h => h) (Or.inl ⟨by rfl, ?_⟩) ?_ ?_
                      rotate_left
                      · intro w'
                        go_simp
                        with_reducible rfl
                      rotate_left
                      · simp only [Act.put, List.setIfInBounds_toArray, List.set_cons_zero, List.set_cons_succ, i64_w, i32_w]
                        rfl
                      refine take_ (i := 8) (N := some 21) (v := ?_) (a' := ?_) #[true, true, true, true, true, true, true, true, true, true, true, true, false, false, false, false] rfl rfl (take_ofW HT_.out HW_.out (by kernel_rfl)) (fun _ _ _ h => h) (Or.inl ⟨by rfl, ?_⟩) hHeld ?_ ?_
                      rotate_left
                      · rintro w' ⟨s0, s1, s2, s3, s4, s5, s6, s7, s8, s9, s10, s11⟩
                        go_simp
                        with_reducible rfl
                      rotate_left
                      · simp only [Act.put, List.setIfInBounds_toArray, List.set_cons_zero, List.set_cons_succ, i64_w, i32_w]
                        rfl
                      refine take_ (i := 12) (N := some 25) (v := ?_) (a' := ?_) #[true, true, true, true, true, true, true, true, true, true, true, true, true, false, false, false] rfl rfl (take_ofW HT_.out HW_.out (by kernel_rfl)) (fun _ _ _ h => h) (Or.inl ⟨by rfl, ?_⟩) hHeld ?_ ?_
                      rotate_left
                      · rintro w' ⟨s0, s1, s2, s3, s4, s5, s6, s7, s8, s9, s10, s11⟩
                        go_simp
                        with_reducible rfl
                      rotate_left
                      · simp only [Act.put, List.setIfInBounds_toArray, List.set_cons_zero, List.set_cons_succ, i64_w, i32_w]
                        rfl
                      refine one_ (i := 13) (N := some 26) #[true, true, true, true, true, true, true, true, true, true, true, true, true, true, false, false] rfl rfl (one_of HT_.out (by kernel_rfl)) (by decide) (fun K hK => ?_)
                      refine goes_ Try.func19 (by kernel_rfl) rfl #[.agg #[.int .i64 ((rd_T34 x3_1 x5_2).f0.f0), .int .i64 ((rd_T34 x3_1 x5_2).f0.f1), .int .i64 ((rd_T34 x3_1 x5_2).f1), .int .i64 ((rd_T34 x3_1 x5_2).f2), .int .i64 ((rd_T34 x3_1 x5_2).f3), .int .i64 ((rd_T34 x3_1 x5_2).f4)], .agg #[.int .i64 ((rd_T34 l0 x4_1).f0.f0), .int .i64 ((rd_T34 l0 x4_1).f0.f1), .int .i64 ((rd_T34 l0 x4_1).f1), .int .i64 ((rd_T34 l0 x4_1).f2), .int .i64 ((rd_T34 l0 x4_1).f3), .int .i64 ((rd_T34 l0 x4_1).f4)]] (by rfl) rfl rfl (by (try simp only [List.map_toArray, List.map_cons, List.map_nil]); first | done | rfl | (simp only [List.length_drop, List.length_take]; rfl)) ?_
                      with_reducible refine (watchmanref07_Compare.calls k2 ((rd_T34 x3_1 x5_2).f0.f0) ((rd_T34 x3_1 x5_2).f0.f1) ((rd_T34 x3_1 x5_2).f1) ((rd_T34 x3_1 x5_2).f2) ((rd_T34 x3_1 x5_2).f3) ((rd_T34 x3_1 x5_2).f4) ((rd_T34 l0 x4_1).f0.f0) ((rd_T34 l0 x4_1).f0.f1) ((rd_T34 l0 x4_1).f1) ((rd_T34 l0 x4_1).f2) ((rd_T34 l0 x4_1).f3) ((rd_T34 l0 x4_1).f4) t129 _ A7.out).mono ?_
                      rintro e w11 ⟨rfl, hb⟩
                      have HS0_ := (hb.cell (World.block_lt_of_cell? _ _ (hHeld.1))).trans (hHeld.1)
                      have HS1_ := (hb.cell (World.block_lt_of_cell? _ _ (hHeld.2.1))).trans (hHeld.2.1)
                      have HS2_ := (hb.cell (World.block_lt_of_cell? _ _ (hHeld.2.2.1))).trans (hHeld.2.2.1)
                      have HS3_ := (hb.cell (World.block_lt_of_cell? _ _ (hHeld.2.2.2.1))).trans (hHeld.2.2.2.1)
                      have HS4_ := (hb.cell (World.block_lt_of_cell? _ _ (hHeld.2.2.2.2.1))).trans (hHeld.2.2.2.2.1)
                      have HS5_ := (hb.cell (World.block_lt_of_cell? _ _ (hHeld.2.2.2.2.2.1))).trans (hHeld.2.2.2.2.2.1)
                      refine ⟨_, rfl, ?_⟩
                      have n0_ := Aside0.mk (Kd.R_below (by (with_reducible repeat (first | apply Kd.R_alloc | apply Kd.R_drewN | apply Kd.R_drew)); exact HO_3.out) hb)
                      have n1_ := Aside0.mk (below_step (by repeat (first | (with_reducible first | exact HB.out | apply below_alloc | apply pw_below_drewN | apply below_drew1) | exact HB.out)) hb)
                      clear HO_3
                      clear HB
                      have HO_3 := n0_
                      have HB := n1_
                      clear n0_ n1_
                      (try clear hb)
                      (try clear hb2)
                      (try clear hk)
                      (try clear hi)
                      refine hK.out _ _ ⟨HS0_, HS1_, HS2_, HS3_, HS4_, HS5_, ((HB.out.cell (World.block_lt_of_cell? w _ hw128_0)).trans hw128_0), ((HB.out.cell (World.block_lt_of_cell? w _ hw128_1)).trans hw128_1), ((HB.out.cell (World.block_lt_of_cell? w _ hw128_2)).trans hw128_2), ((HB.out.cell (World.block_lt_of_cell? w _ hw128_3)).trans hw128_3), ((HB.out.cell (World.block_lt_of_cell? w _ hw128_4)).trans hw128_4), ((HB.out.cell (World.block_lt_of_cell? w _ hw128_5)).trans hw128_5)⟩ (fun hHeld => ?_)
                      clear hK K
                      refine norm_ (a' := ?_) ?_ ?_
                      rotate_left
                      · show Act.put _ (some 26) _ = _
                        simp only [Act.put, List.setIfInBounds_toArray, List.set_cons_zero, List.set_cons_succ, i64_w, i32_w]
                        rfl
                      refine pure_ (i := 14) (N := some 27) (v := ?_) (a' := ?_) #[true, true, true, true, true, true, true, true, true, true, true, true, true, true, true, false] rfl rfl (any_of HT_.out (by kernel_rfl)) (fun _ _ _ h => h) (Or.inl ⟨by rfl, ?_⟩) ?_ ?_
                      rotate_left
                      · intro w'
                        go_simp
                        with_reducible rfl
                      rotate_left
                      · simp only [Act.put, List.setIfInBounds_toArray, List.set_cons_zero, List.set_cons_succ, i64_w, i32_w]
                        rfl
                      refine pure_ (i := 15) (N := some 28) (v := ?_) (a' := ?_) #[true, true, true, true, true, true, true, true, true, true, true, true, true, true, true, true] rfl rfl (any_of HT_.out (by kernel_rfl)) (fun _ _ _ h => h) (Or.inl ⟨by rfl, ?_⟩) ?_ ?_
                      rotate_left
                      · intro w'
                        go_simp
                        with_reducible rfl
                      rotate_left
                      · simp only [Act.put, List.setIfInBounds_toArray, List.set_cons_zero, List.set_cons_succ, i64_w, i32_w]
                        rfl
                      refine done_ (done_of HT_.out (by kernel_rfl)) ?_
                      try go_wp2
                      go_roundg k2
                      case measure => have := HK1.out; have := HK2.out; omega
                      case rel => exact ⟨(wrap64 (x5_2 + 1)), (by first | rfl | (simp; done) | (simp [*]; done)), H', ⟨by have := HK1.out; have := HK2.out; omega⟩, ⟨by (with_reducible repeat (first | apply Kd.R_alloc | apply Kd.R_drewN | apply Kd.R_drew)); exact HO_3.out⟩, ⟨by repeat (first | (with_reducible first | exact HB.out | apply below_alloc | apply pw_below_drewN | apply below_drew1) | exact HB.out)⟩⟩
                    · rw [if_neg c8] at H
                      have c8b0 : decide (t129 ≤ 0) = false := decide_eq_false c8
                      clear c8
                      have c12b0 := eq_true (of_decide_eq_true (by first | (with_reducible assumption) | assumption) : 0 ≤ x5_2)
                      by_cases c13 : x5_2 ≤ (x3_1.length : Int)
                      · rw [if_pos c13] at H
                        have c13b0 := eq_true c13
                        have c13b1 : decide (x5_2 ≤ (x3_1.length : Int)) = true := decide_eq_true c13
                        clear c13
                        obtain ⟨y130, hy130⟩ : ∃ y_ : List (S34), y_ = (x3_1.take (x5_2 : Int).toNat) := ⟨_, rfl⟩
                        replace H : (if ([] : List (S34)).length + y130.length < 2932031007402 then ((some (([] : List (S34)) ++ y130 : List (S34))).bind fun y134 => (if y134.length < 2932031007402 then ((some (y134 ++ [(⟨(⟨(rd_T34 l0 x4_1).f0.f0, (rd_T34 l0 x4_1).f0.f1⟩ : S24), (rd_T34 l0 x4_1).f1, (rd_T34 l0 x4_1).f2, (rd_T34 l0 x4_1).f3, (rd_T34 l0 x4_1).f4⟩ : S34)] : List (S34))).bind fun y138 => ((some (x3_1.drop (x5_2 : Int).toNat : List (S34))).bind fun y141 => (if y138.length + y141.length < 2932031007402 then (watchmanref07_Sort.l0 k2 l0 (y138 ++ y141) (wrap64 (x4_1 + 1))) else (none)))) else (none))) else (none)) = some r := by first | (rw [hy130]; with_reducible exact H) | (have H2_ := (Option.bind_some _ _).symm.trans H; rw [hy130]; with_reducible exact H2_) | (have H2_ := (Option.bind_some _ _).symm.trans H; with_reducible exact H2_) | with_reducible exact H | (rw [hy130]; exact H) | exact H
                        have Ny130 := Aside0.mk hy130
                        clear hy130
                        by_cases c14 : ([] : List (S34)).length + y130.length < 2932031007402
                        · rw [if_pos c14] at H
                          have LMc14 := Aside0.mk c14
                          clear c14
                          obtain ⟨y134, hy134⟩ : ∃ y_ : List (S34), y_ = (([] : List (S34)) ++ y130) := ⟨_, rfl⟩
                          replace H : (if y134.length < 2932031007402 then ((some (y134 ++ [(⟨(⟨(rd_T34 l0 x4_1).f0.f0, (rd_T34 l0 x4_1).f0.f1⟩ : S24), (rd_T34 l0 x4_1).f1, (rd_T34 l0 x4_1).f2, (rd_T34 l0 x4_1).f3, (rd_T34 l0 x4_1).f4⟩ : S34)] : List (S34))).bind fun y138 => ((some (x3_1.drop (x5_2 : Int).toNat : List (S34))).bind fun y141 => (if y138.length + y141.length < 2932031007402 then (watchmanref07_Sort.l0 k2 l0 (y138 ++ y141) (wrap64 (x4_1 + 1))) else (none)))) else (none)) = some r := by first | (rw [hy134]; with_reducible exact H) | (have H2_ := (Option.bind_some _ _).symm.trans H; rw [hy134]; with_reducible exact H2_) | (have H2_ := (Option.bind_some _ _).symm.trans H; with_reducible exact H2_) | with_reducible exact H | (rw [hy134]; exact H) | exact H
                          have Ny134 := Aside0.mk hy134
                          clear hy134
                          by_cases c15 : y134.length < 2932031007402
                          · rw [if_pos c15] at H
                            have LMc15 := Aside0.mk c15
                            clear c15
                            obtain ⟨y138, hy138⟩ : ∃ y_ : List (S34), y_ = (y134 ++ [(⟨(⟨(rd_T34 l0 x4_1).f0.f0, (rd_T34 l0 x4_1).f0.f1⟩ : S24), (rd_T34 l0 x4_1).f1, (rd_T34 l0 x4_1).f2, (rd_T34 l0 x4_1).f3, (rd_T34 l0 x4_1).f4⟩ : S34)]) := ⟨_, rfl⟩
                            replace H : ((some (x3_1.drop (x5_2 : Int).toNat : List (S34))).bind fun y141 => (if y138.length + y141.length < 2932031007402 then (watchmanref07_Sort.l0 k2 l0 (y138 ++ y141) (wrap64 (x4_1 + 1))) else (none))) = some r := by first | (rw [hy138]; with_reducible exact H) | (have H2_ := (Option.bind_some _ _).symm.trans H; rw [hy138]; with_reducible exact H2_) | (have H2_ := (Option.bind_some _ _).symm.trans H; with_reducible exact H2_) | with_reducible exact H | (rw [hy138]; exact H) | exact H
                            have Ny138 := Aside0.mk hy138
                            clear hy138
                            have c16b0 := eq_true (of_decide_eq_true (by first | (with_reducible assumption) | assumption) : 0 ≤ x5_2)
                            have c17b0 := eq_true (of_decide_eq_true (by first | (with_reducible assumption) | assumption) : x5_2 ≤ (x3_1.length : Int))
                            obtain ⟨y141, hy141⟩ : ∃ y_ : List (S34), y_ = (x3_1.drop (x5_2 : Int).toNat) := ⟨_, rfl⟩
                            replace H : (if y138.length + y141.length < 2932031007402 then (watchmanref07_Sort.l0 k2 l0 (y138 ++ y141) (wrap64 (x4_1 + 1))) else (none)) = some r := by first | (rw [hy141]; with_reducible exact H) | (have H2_ := (Option.bind_some _ _).symm.trans H; rw [hy141]; with_reducible exact H2_) | (have H2_ := (Option.bind_some _ _).symm.trans H; with_reducible exact H2_) | with_reducible exact H | (rw [hy141]; exact H) | exact H
                            have Ny141 := Aside0.mk hy141
                            clear hy141
                            by_cases c18 : y138.length + y141.length < 2932031007402
                            · rw [if_pos c18] at H
                              have LMc18 := Aside0.mk c18
                              clear c18
                              obtain ⟨y145, hy145⟩ : ∃ y_ : List (S34), y_ = (y138 ++ y141) := ⟨_, rfl⟩
                              replace H : (watchmanref07_Sort.l0 k2 l0 y145 (wrap64 (x4_1 + 1))) = some r := by first | (rw [hy145]; with_reducible exact H) | (have H2_ := (Option.bind_some _ _).symm.trans H; rw [hy145]; with_reducible exact H2_) | (have H2_ := (Option.bind_some _ _).symm.trans H; with_reducible exact H2_) | with_reducible exact H | (rw [hy145]; exact H) | exact H
                              have Ny145 := Aside0.mk hy145
                              clear hy145
                              have H' := Aside0.mk H
                              clear H
                              try go_wp2
                              have n0_ := Aside0.mk (Kd.R_drew HO_3.out)
                              have n1_ := Aside0.mk (below_drew1 HB.out)
                              clear HO_3
                              clear HB
                              have HO_3 := n0_
                              have HB := n1_
                              clear n0_ n1_
                              obtain ⟨Ao20, co20, eo20⟩ := Kd.R_slice HO_3.out
                              (first | subst eo20 | (injection eo20 with f1_ f2_ f3_; have f4_ := f1_.symm; have f5_ := f3_.symm; clear f1_ f2_ f3_; subst f4_; subst f5_))
                              have p127 : 0 ≤ (x5_2 : Int) := of_decide_eq_true (by first | (with_reducible assumption) | assumption)
                              have q127 : x5_2 < (x3_1.length : Int) := of_decide_eq_true (by first | (with_reducible assumption) | assumption)
                              obtain ⟨ad127, e127, hx127_0, hx127_1, hx127_2, hx127_3, hx127_4, hx127_5⟩ := at_T34 (Kd.R_reads' HO_3.out).2.2 x5_2 p127 q127
                              cases e127
                              replace p127 := eq_true p127
                              replace q127 := eq_true q127
                              have p128 : 0 ≤ (x4_1 : Int) := of_decide_eq_true (by first | (with_reducible assumption) | assumption)
                              have q128 : x4_1 < (l0.length : Int) := of_decide_eq_true (by first | (with_reducible assumption) | assumption)
                              obtain ⟨ad128, e128, hx128_0, hx128_1, hx128_2, hx128_3, hx128_4, hx128_5⟩ := at_T34 HR0.out x4_1 p128 q128
                              have hw128_5 := hx128_5
                              have hw128_4 := hx128_4
                              have hw128_3 := hx128_3
                              have hw128_2 := hx128_2
                              have hw128_1 := hx128_1
                              have hw128_0 := hx128_0
                              cases e128
                              replace hx128_0 := (HB.out.cell (World.block_lt_of_cell? w _ hx128_0)).trans hx128_0
                              replace hx128_1 := (HB.out.cell (World.block_lt_of_cell? w _ hx128_1)).trans hx128_1
                              replace hx128_2 := (HB.out.cell (World.block_lt_of_cell? w _ hx128_2)).trans hx128_2
                              replace hx128_3 := (HB.out.cell (World.block_lt_of_cell? w _ hx128_3)).trans hx128_3
                              replace hx128_4 := (HB.out.cell (World.block_lt_of_cell? w _ hx128_4)).trans hx128_4
                              replace hx128_5 := (HB.out.cell (World.block_lt_of_cell? w _ hx128_5)).trans hx128_5
                              replace p128 := eq_true p128
                              replace q128 := eq_true q128
                              refine start_ (n := 16) (S := fun w' => w'.cell? (ad127.add ((x5_2).toNat * 6)) = some (.int .i64 ((rd_T34 x3_1 x5_2).f0.f0)) ∧ w'.cell? ⟨(ad127.add ((x5_2).toNat * 6)).block, (ad127.add ((x5_2).toNat * 6)).off + 1, none⟩ = some (.int .i64 ((rd_T34 x3_1 x5_2).f0.f1)) ∧ w'.cell? ⟨(ad127.add ((x5_2).toNat * 6)).block, (ad127.add ((x5_2).toNat * 6)).off + 2, none⟩ = some (.int .i64 ((rd_T34 x3_1 x5_2).f1)) ∧ w'.cell? ⟨(ad127.add ((x5_2).toNat * 6)).block, (ad127.add ((x5_2).toNat * 6)).off + 3, none⟩ = some (.int .i64 ((rd_T34 x3_1 x5_2).f2)) ∧ w'.cell? ⟨(ad127.add ((x5_2).toNat * 6)).block, (ad127.add ((x5_2).toNat * 6)).off + 4, none⟩ = some (.int .i64 ((rd_T34 x3_1 x5_2).f3)) ∧ w'.cell? ⟨(ad127.add ((x5_2).toNat * 6)).block, (ad127.add ((x5_2).toNat * 6)).off + 5, none⟩ = some (.int .i64 ((rd_T34 x3_1 x5_2).f4)) ∧ w'.cell? (ad128.add ((x4_1).toNat * 6)) = some (.int .i64 ((rd_T34 l0 x4_1).f0.f0)) ∧ w'.cell? ⟨(ad128.add ((x4_1).toNat * 6)).block, (ad128.add ((x4_1).toNat * 6)).off + 1, none⟩ = some (.int .i64 ((rd_T34 l0 x4_1).f0.f1)) ∧ w'.cell? ⟨(ad128.add ((x4_1).toNat * 6)).block, (ad128.add ((x4_1).toNat * 6)).off + 2, none⟩ = some (.int .i64 ((rd_T34 l0 x4_1).f1)) ∧ w'.cell? ⟨(ad128.add ((x4_1).toNat * 6)).block, (ad128.add ((x4_1).toNat * 6)).off + 3, none⟩ = some (.int .i64 ((rd_T34 l0 x4_1).f2)) ∧ w'.cell? ⟨(ad128.add ((x4_1).toNat * 6)).block, (ad128.add ((x4_1).toNat * 6)).off + 4, none⟩ = some (.int .i64 ((rd_T34 l0 x4_1).f3)) ∧ w'.cell? ⟨(ad128.add ((x4_1).toNat * 6)).block, (ad128.add ((x4_1).toNat * 6)).off + 5, none⟩ = some (.int .i64 ((rd_T34 l0 x4_1).f4))) (ds := []) #[false, false, false, false, false, false, false, false, false, false, false, false, false, false, false, false] (by kernel_rfl) rfl rfl ⟨hx127_0, hx127_1, hx127_2, hx127_3, hx127_4, hx127_5, ((HB.out.cell (World.block_lt_of_cell? w _ hw128_0)).trans hw128_0), ((HB.out.cell (World.block_lt_of_cell? w _ hw128_1)).trans hw128_1), ((HB.out.cell (World.block_lt_of_cell? w _ hw128_2)).trans hw128_2), ((HB.out.cell (World.block_lt_of_cell? w _ hw128_3)).trans hw128_3), ((HB.out.cell (World.block_lt_of_cell? w _ hw128_4)).trans hw128_4), ((HB.out.cell (World.block_lt_of_cell? w _ hw128_5)).trans hw128_5)⟩ (fun hHeld => ?_); refine with_tabW watchmanref07_Sort.tab6 watchmanref07_Sort.bits6 (fun HT_ HW_ => ?_)
                              generalize wr.drew = w19 at HO_3 HB hx127_0 hx127_1 hx127_2 hx127_3 hx127_4 hx127_5 hx128_0 hx128_1 hx128_2 hx128_3 hx128_4 hx128_5 hHeld ⊢
                              refine pure_ (i := 0) (N := some 13) (v := ?_) (a' := ?_) #[true, false, false, false, false, false, false, false, false, false, false, false, false, false, false, false] rfl rfl (any_of HT_.out (by kernel_rfl)) (fun _ _ _ h => h) (Or.inl ⟨by rfl, ?_⟩) ?_ ?_
                              rotate_left
                              · intro w'
                                go_simp
                                with_reducible rfl
                              rotate_left
                              · simp only [Act.put, List.setIfInBounds_toArray, List.set_cons_zero, List.set_cons_succ, i64_w, i32_w]
                                rfl
                              refine pure_ (i := 1) (N := some 14) (v := ?_) (a' := ?_) #[true, true, false, false, false, false, false, false, false, false, false, false, false, false, false, false] rfl rfl (any_of HT_.out (by kernel_rfl)) (fun _ _ _ h => h) (Or.inl ⟨by rfl, ?_⟩) ?_ ?_
                              rotate_left
                              · intro w'
                                go_simp
                                with_reducible rfl
                              rotate_left
                              · simp only [Act.put, List.setIfInBounds_toArray, List.set_cons_zero, List.set_cons_succ, i64_w, i32_w]
                                rfl
                              refine pure_ (i := 2) (N := some 15) (v := ?_) (a' := ?_) #[true, true, true, false, false, false, false, false, false, false, false, false, false, false, false, false] rfl rfl (any_of HT_.out (by kernel_rfl)) (fun _ _ _ h => h) (Or.inl ⟨by rfl, ?_⟩) ?_ ?_
                              rotate_left
                              · intro w'
                                go_simp
                                with_reducible rfl
                              rotate_left
                              · simp only [Act.put, List.setIfInBounds_toArray, List.set_cons_zero, List.set_cons_succ, i64_w, i32_w]
                                rfl
                              refine pure_ (i := 3) (N := some 16) (v := ?_) (a' := ?_) #[true, true, true, true, false, false, false, false, false, false, false, false, false, false, false, false] rfl rfl (any_of HT_.out (by kernel_rfl)) (fun _ _ _ h => h) (Or.inl ⟨by rfl, ?_⟩) ?_ ?_
                              rotate_left
                              · intro w'
                                go_simp
                                with_reducible rfl
                              rotate_left
                              · simp only [Act.put, List.setIfInBounds_toArray, List.set_cons_zero, List.set_cons_succ, i64_w, i32_w]
                                rfl
                              refine pure_ (i := 4) (N := some 17) (v := ?_) (a' := ?_) #[true, true, true, true, true, false, false, false, false, false, false, false, false, false, false, false] rfl rfl (any_of HT_.out (by kernel_rfl)) (fun _ _ _ h => h) (Or.inl ⟨by rfl, ?_⟩) ?_ ?_
                              rotate_left
                              · intro w'
                                go_simp
                                with_reducible rfl
                              rotate_left
                              · simp only [Act.put, List.setIfInBounds_toArray, List.set_cons_zero, List.set_cons_succ, i64_w, i32_w]
                                rfl
                              refine pure_ (i := 5) (N := some 18) (v := ?_) (a' := ?_) #[true, true, true, true, true, true, false, false, false, false, false, false, false, false, false, false] rfl rfl (any_of HT_.out (by kernel_rfl)) (fun _ _ _ h => h) (Or.inl ⟨by rfl, ?_⟩) ?_ ?_
                              rotate_left
                              · intro w'
                                go_simp
                                with_reducible rfl
                              rotate_left
                              · simp only [Act.put, List.setIfInBounds_toArray, List.set_cons_zero, List.set_cons_succ, i64_w, i32_w]
                                rfl
                              refine pure_ (i := 6) (N := some 19) (v := ?_) (a' := ?_) #[true, true, true, true, true, true, true, false, false, false, false, false, false, false, false, false] rfl rfl (any_of HT_.out (by kernel_rfl)) (fun _ _ _ h => h) (Or.inl ⟨by rfl, ?_⟩) ?_ ?_
                              rotate_left
                              · intro w'
                                go_simp
                                with_reducible rfl
                              rotate_left
                              · simp only [Act.put, List.setIfInBounds_toArray, List.set_cons_zero, List.set_cons_succ, i64_w, i32_w]
                                rfl
                              refine pure_ (i := 7) (N := some 20) (v := ?_) (a' := ?_) #[true, true, true, true, true, true, true, true, false, false, false, false, false, false, false, false] rfl rfl (any_of HT_.out (by kernel_rfl)) (fun _ _ _ h => h) (Or.inl ⟨by rfl, ?_⟩) ?_ ?_
                              rotate_left
                              · intro w'
                                go_simp
                                with_reducible rfl
                              rotate_left
                              · simp only [Act.put, List.setIfInBounds_toArray, List.set_cons_zero, List.set_cons_succ, i64_w, i32_w]
                                rfl
                              refine pure_ (i := 9) (N := some 22) (v := ?_) (a' := ?_) #[true, true, true, true, true, true, true, true, false, true, false, false, false, false, false, false] rfl rfl (any_of HT_.out (by kernel_rfl)) (fun _ _ _ h => h) (Or.inl ⟨by rfl, ?_⟩) ?_ ?_
                              rotate_left
                              · intro w'
                                go_simp
                                with_reducible rfl
                              rotate_left
                              · simp only [Act.put, List.setIfInBounds_toArray, List.set_cons_zero, List.set_cons_succ, i64_w, i32_w]
                                rfl
                              refine pure_ (i := 10) (N := some 23) (v := ?_) (a' := ?_) #[true, true, true, true, true, true, true, true, false, true, true, false, false, false, false, false] rfl rfl (any_of HT_.out (by kernel_rfl)) (fun _ _ _ h => h) (Or.inl ⟨by rfl, ?_⟩) ?_ ?_
                              rotate_left
                              · intro w'
                                go_simp
                                with_reducible rfl
                              rotate_left
                              · simp only [Act.put, List.setIfInBounds_toArray, List.set_cons_zero, List.set_cons_succ, i64_w, i32_w]
                                rfl
                              refine pure_ (i := 11) (N := some 24) (v := ?_) (a' := ?_) #[true, true, true, true, true, true, true, true, false, true, true, true, false, false, false, false] rfl rfl (any_of HT_.out (by kernel_rfl)) (fun _ _ _ h => h) (Or.inl ⟨by rfl, ?_⟩) ?_ ?_
                              rotate_left
                              · intro w'
                                go_simp
                                with_reducible rfl
                              rotate_left
                              · simp only [Act.put, List.setIfInBounds_toArray, List.set_cons_zero, List.set_cons_succ, i64_w, i32_w]
                                rfl
                              refine take_ (i := 8) (N := some 21) (v := ?_) (a' := ?_) #[true, true, true, true, true, true, true, true, true, true, true, true, false, false, false, false] rfl rfl (take_ofW HT_.out HW_.out (by kernel_rfl)) (fun _ _ _ h => h) (Or.inl ⟨by rfl, ?_⟩) hHeld ?_ ?_
                              rotate_left
                              · rintro w' ⟨s0, s1, s2, s3, s4, s5, s6, s7, s8, s9, s10, s11⟩
                                go_simp
                                with_reducible rfl
                              rotate_left
                              · simp only [Act.put, List.setIfInBounds_toArray, List.set_cons_zero, List.set_cons_succ, i64_w, i32_w]
                                rfl
                              refine take_ (i := 12) (N := some 25) (v := ?_) (a' := ?_) #[true, true, true, true, true, true, true, true, true, true, true, true, true, false, false, false] rfl rfl (take_ofW HT_.out HW_.out (by kernel_rfl)) (fun _ _ _ h => h) (Or.inl ⟨by rfl, ?_⟩) hHeld ?_ ?_
                              rotate_left
                              · rintro w' ⟨s0, s1, s2, s3, s4, s5, s6, s7, s8, s9, s10, s11⟩
                                go_simp
                                with_reducible rfl
                              rotate_left
                              · simp only [Act.put, List.setIfInBounds_toArray, List.set_cons_zero, List.set_cons_succ, i64_w, i32_w]
                                rfl
                              refine one_ (i := 13) (N := some 26) #[true, true, true, true, true, true, true, true, true, true, true, true, true, true, false, false] rfl rfl (one_of HT_.out (by kernel_rfl)) (by decide) (fun K hK => ?_)
                              refine goes_ Try.func19 (by kernel_rfl) rfl #[.agg #[.int .i64 ((rd_T34 x3_1 x5_2).f0.f0), .int .i64 ((rd_T34 x3_1 x5_2).f0.f1), .int .i64 ((rd_T34 x3_1 x5_2).f1), .int .i64 ((rd_T34 x3_1 x5_2).f2), .int .i64 ((rd_T34 x3_1 x5_2).f3), .int .i64 ((rd_T34 x3_1 x5_2).f4)], .agg #[.int .i64 ((rd_T34 l0 x4_1).f0.f0), .int .i64 ((rd_T34 l0 x4_1).f0.f1), .int .i64 ((rd_T34 l0 x4_1).f1), .int .i64 ((rd_T34 l0 x4_1).f2), .int .i64 ((rd_T34 l0 x4_1).f3), .int .i64 ((rd_T34 l0 x4_1).f4)]] (by rfl) rfl rfl (by (try simp only [List.map_toArray, List.map_cons, List.map_nil]); first | done | rfl | (simp only [List.length_drop, List.length_take]; rfl)) ?_
                              with_reducible refine (watchmanref07_Compare.calls k2 ((rd_T34 x3_1 x5_2).f0.f0) ((rd_T34 x3_1 x5_2).f0.f1) ((rd_T34 x3_1 x5_2).f1) ((rd_T34 x3_1 x5_2).f2) ((rd_T34 x3_1 x5_2).f3) ((rd_T34 x3_1 x5_2).f4) ((rd_T34 l0 x4_1).f0.f0) ((rd_T34 l0 x4_1).f0.f1) ((rd_T34 l0 x4_1).f1) ((rd_T34 l0 x4_1).f2) ((rd_T34 l0 x4_1).f3) ((rd_T34 l0 x4_1).f4) t129 _ A7.out).mono ?_
                              rintro e w21 ⟨rfl, hb⟩
                              have HS0_ := (hb.cell (World.block_lt_of_cell? _ _ (hHeld.1))).trans (hHeld.1)
                              have HS1_ := (hb.cell (World.block_lt_of_cell? _ _ (hHeld.2.1))).trans (hHeld.2.1)
                              have HS2_ := (hb.cell (World.block_lt_of_cell? _ _ (hHeld.2.2.1))).trans (hHeld.2.2.1)
                              have HS3_ := (hb.cell (World.block_lt_of_cell? _ _ (hHeld.2.2.2.1))).trans (hHeld.2.2.2.1)
                              have HS4_ := (hb.cell (World.block_lt_of_cell? _ _ (hHeld.2.2.2.2.1))).trans (hHeld.2.2.2.2.1)
                              have HS5_ := (hb.cell (World.block_lt_of_cell? _ _ (hHeld.2.2.2.2.2.1))).trans (hHeld.2.2.2.2.2.1)
                              refine ⟨_, rfl, ?_⟩
                              have n0_ := Aside0.mk (Kd.R_below (by (with_reducible repeat (first | apply Kd.R_alloc | apply Kd.R_drewN | apply Kd.R_drew)); exact HO_3.out) hb)
                              have n1_ := Aside0.mk (below_step (by repeat (first | (with_reducible first | exact HB.out | apply below_alloc | apply pw_below_drewN | apply below_drew1) | exact HB.out)) hb)
                              clear HO_3
                              clear HB
                              have HO_3 := n0_
                              have HB := n1_
                              clear n0_ n1_
                              (try clear hb)
                              (try clear hb2)
                              (try clear hk)
                              (try clear hi)
                              refine hK.out _ _ ⟨HS0_, HS1_, HS2_, HS3_, HS4_, HS5_, ((HB.out.cell (World.block_lt_of_cell? w _ hw128_0)).trans hw128_0), ((HB.out.cell (World.block_lt_of_cell? w _ hw128_1)).trans hw128_1), ((HB.out.cell (World.block_lt_of_cell? w _ hw128_2)).trans hw128_2), ((HB.out.cell (World.block_lt_of_cell? w _ hw128_3)).trans hw128_3), ((HB.out.cell (World.block_lt_of_cell? w _ hw128_4)).trans hw128_4), ((HB.out.cell (World.block_lt_of_cell? w _ hw128_5)).trans hw128_5)⟩ (fun hHeld => ?_)
                              clear hK K
                              refine norm_ (a' := ?_) ?_ ?_
                              rotate_left
                              · show Act.put _ (some 26) _ = _
                                simp only [Act.put, List.setIfInBounds_toArray, List.set_cons_zero, List.set_cons_succ, i64_w, i32_w]
                                rfl
                              refine pure_ (i := 14) (N := some 27) (v := ?_) (a' := ?_) #[true, true, true, true, true, true, true, true, true, true, true, true, true, true, true, false] rfl rfl (any_of HT_.out (by kernel_rfl)) (fun _ _ _ h => h) (Or.inl ⟨by rfl, ?_⟩) ?_ ?_
                              rotate_left
                              · intro w'
                                go_simp
                                with_reducible rfl
                              rotate_left
                              · simp only [Act.put, List.setIfInBounds_toArray, List.set_cons_zero, List.set_cons_succ, i64_w, i32_w]
                                rfl
                              refine pure_ (i := 15) (N := some 28) (v := ?_) (a' := ?_) #[true, true, true, true, true, true, true, true, true, true, true, true, true, true, true, true] rfl rfl (any_of HT_.out (by kernel_rfl)) (fun _ _ _ h => h) (Or.inl ⟨by rfl, ?_⟩) ?_ ?_
                              rotate_left
                              · intro w'
                                go_simp
                                with_reducible rfl
                              rotate_left
                              · simp only [Act.put, List.setIfInBounds_toArray, List.set_cons_zero, List.set_cons_succ, i64_w, i32_w]
                                rfl
                              refine done_ (done_of HT_.out (by kernel_rfl)) ?_
                              have q22 : (x5_2 : Int) ≤ ((x3_1.length : Int) : Int) := of_decide_eq_true (by first | (with_reducible assumption) | assumption)
                              obtain ⟨i022, hi022, _, hsz22, _⟩ := info_parts info34
                              have hroom22 : x3_1.length ≤ co20 := (Kd.R_reads' HO_3.out).2.1
                              have hC22 : Kd.C k34 _ (some ad127) x3_1.length x3_1 := (Kd.R_reads' HO_3.out).2.2
                              have hcut22 := cut_to (P := Try.prog) 22 34 .i64 Try.underlying22 hi022 (some ad127) x3_1.length co20 x5_2 (of_decide_eq_true (by first | (with_reducible assumption) | assumption)) q22 hroom22
                              have hr22 := Kd.C_take (m := (x5_2 : Int).toNat) hC22 (by omega)
                              have hy22 : y130.length = (x5_2 : Int).toNat := (by rw [Ny130.out, List.length_take]; omega)
                              rw [← Ny130.out] at hr22
                              rw [← hy22] at hcut22
                              have HR133 := Aside0.mk hr22
                              have HC133 := Aside0.mk (show y130.length ≤ co20 from by omega)
                              clear hr22 hC22 hroom22 hi022 hsz22
                              have KY22 := Aside0.mk hy22
                              clear hy22
                              have KL22 := Aside0.mk (show (x5_2 : Int).toNat ≤ x3_1.length from by omega)
                              replace q22 := eq_true q22
                              try go_wp2_with (first | ((with_reducible refine gate_builtin (b := .append) (xs := #[.tmp 31, .tmp 34]) rfl ?_); at_builtin; refine Kd.R_append_rows k34 (w0 := w) w.heap.size rfl (.tmp 31) (.tmp 34) 22 34 (.agg #[(.int .i64 0), (.int .i64 0), (.int .i64 0), (.int .i64 0), (.int .i64 0), (.int .i64 0)]) 48 rfl Try.underlying22 info34 rfl (by decide) (by omega) (.slice none 0 0) ([] : List (S34)) y130 _ _ _ (fun k_ => some k_ ≠ (.slice (some ad127) x3_1.length co20 : Value).ownBlock) (fun _ => False) rfl rfl ?aO ?aR (fun _ _ h => h) (fun _ h => h.elim) ?aF ?aB ?aS ?aL ?_; (case aR => repeat (first | exact (by repeat (first | (with_reducible exact HR133.out) | (with_reducible refine Kd.C_alloc ?_ _) | (with_reducible refine Kd.C_drewN ?_ _) | (with_reducible refine Kd.C_drew ?_) | exact HR133.out)) | (with_reducible refine Kd.C_alloc ?_ _) | (with_reducible refine Kd.C_drewN ?_ _) | (with_reducible refine Kd.C_drew ?_))); (case aB => exact (by repeat (first | (with_reducible first | exact HB.out | apply below_alloc | apply pw_below_drewN | apply below_drew1) | exact HB.out))); (case aF => exact (fun k_ hk => Kd.fresh' (Kd.R_lt (by (with_reducible repeat (first | apply Kd.R_alloc | apply Kd.R_drewN | apply Kd.R_drew)); exact HO_3.out)) k_ hk)); (case aO => exact ((Kd.R_nil _ _ _ _ (fun k_ => some k_ ≠ (.slice (some ad127) x3_1.length co20 : Value).ownBlock)))); (case aS => exact (below_size (by repeat (first | (with_reducible first | exact HB.out | apply below_alloc | apply pw_below_drewN | apply below_drew1) | exact HB.out)))); (case aL => have := LMc14.out; omega); intro v135 w23 ho hb hg hat; rw [← Ny134.out] at ho; have n0_ := Aside0.mk (Kd.R_after (Kd.R_apart_nil (by (with_reducible repeat (first | apply Kd.R_alloc | apply Kd.R_drewN | apply Kd.R_drew)); exact HO_3.out)) hg hat); have n1_ := Aside0.mk (hb); have n2_ := Aside0.mk ((show Kd.C k34 w23 (some ad127) y130.length y130 from by rw [Ny130.out]; exact Kd.C_take (m := (x5_2 : Int).toNat) ((Kd.R_reads' (Kd.R_after (Kd.R_apart_nil (by (with_reducible repeat (first | apply Kd.R_alloc | apply Kd.R_drewN | apply Kd.R_drew)); exact HO_3.out)) hg hat)).2.2) KL22.out)); have n3_ := Aside0.mk (ho); clear HO_3; clear HB; clear HR133; have HO_3 := n0_; have HB := n1_; have HR133 := n2_; have HO136 := n3_; clear n0_ n1_ n2_ n3_; clear ho hb hg hat; have p137 : 0 ≤ (x4_1 : Int) := of_decide_eq_true (by first | (with_reducible assumption) | assumption); have q137 : x4_1 < (l0.length : Int) := of_decide_eq_true (by first | (with_reducible assumption) | assumption); obtain ⟨ad137, e137, hx137_0, hx137_1, hx137_2, hx137_3, hx137_4, hx137_5⟩ := at_T34 HR0.out x4_1 p137 q137; obtain rfl : ad128 = ad137 := (by injection e137); replace hx137_0 := (HB.out.cell (World.block_lt_of_cell? w _ hx137_0)).trans hx137_0; replace hx137_1 := (HB.out.cell (World.block_lt_of_cell? w _ hx137_1)).trans hx137_1; replace hx137_2 := (HB.out.cell (World.block_lt_of_cell? w _ hx137_2)).trans hx137_2; replace hx137_3 := (HB.out.cell (World.block_lt_of_cell? w _ hx137_3)).trans hx137_3; replace hx137_4 := (HB.out.cell (World.block_lt_of_cell? w _ hx137_4)).trans hx137_4; replace hx137_5 := (HB.out.cell (World.block_lt_of_cell? w _ hx137_5)).trans hx137_5; replace p137 := eq_true p137; replace q137 := eq_true q137) | ((with_reducible refine gate_builtin (b := .append) (xs := #[.tmp 36, .tmp 41]) rfl ?_); at_builtin; refine Kd.R_append k34 (w0 := w) w.heap.size rfl (.tmp 36) (.tmp 41) 22 34 (.agg #[(.int .i64 0), (.int .i64 0), (.int .i64 0), (.int .i64 0), (.int .i64 0), (.int .i64 0)]) 48 rfl Try.underlying22 info34 rfl (by decide) (by omega) v135 y134 (⟨(⟨(rd_T34 l0 x4_1).f0.f0, (rd_T34 l0 x4_1).f0.f1⟩ : S24), (rd_T34 l0 x4_1).f1, (rd_T34 l0 x4_1).f2, (rd_T34 l0 x4_1).f3, (rd_T34 l0 x4_1).f4⟩ : S34) [.int .i64 ((rd_T34 l0 x4_1).f0.f0), .int .i64 ((rd_T34 l0 x4_1).f0.f1), .int .i64 ((rd_T34 l0 x4_1).f1), .int .i64 ((rd_T34 l0 x4_1).f2), .int .i64 ((rd_T34 l0 x4_1).f3), .int .i64 ((rd_T34 l0 x4_1).f4)] (fun k_ => some k_ ≠ (.slice (some ad127) x3_1.length co20 : Value).ownBlock) (fun _ => False) rfl rfl ?aP (fun _ hk => hk.elim) ?aF ?aO ?aB ?aS ?aL ?_; (case aP => exact k34_mkM _ _ _ (⟨(⟨(rd_T34 l0 x4_1).f0.f0, (rd_T34 l0 x4_1).f0.f1⟩ : S24), (rd_T34 l0 x4_1).f1, (rd_T34 l0 x4_1).f2, (rd_T34 l0 x4_1).f3, (rd_T34 l0 x4_1).f4⟩ : S34)); (case aB => exact (by repeat (first | (with_reducible first | exact HB.out | apply below_alloc | apply pw_below_drewN | apply below_drew1) | exact HB.out))); (case aF => exact (fun k_ hk => Kd.fresh' (Kd.R_lt (by (with_reducible repeat (first | apply Kd.R_alloc | apply Kd.R_drewN | apply Kd.R_drew)); exact HO_3.out)) k_ hk)); (case aO => exact (by (with_reducible repeat (first | apply Kd.R_alloc | apply Kd.R_drewN | apply Kd.R_drew)); exact HO136.out)); (case aS => exact (below_size (by repeat (first | (with_reducible first | exact HB.out | apply below_alloc | apply pw_below_drewN | apply below_drew1) | exact HB.out)))); (case aL => have := LMc15.out; omega); intro v139 w24 ho hb hg hat; rw [← Ny138.out] at ho; have n0_ := Aside0.mk (Kd.R_after (ok := (fun _ => True)) (by (with_reducible repeat (first | apply Kd.R_alloc | apply Kd.R_drewN | apply Kd.R_drew)); exact HO_3.out) hg hat); have n1_ := Aside0.mk (hb); have n2_ := Aside0.mk ((show Kd.C k34 w24 (some ad127) y130.length y130 from by rw [Ny130.out]; exact Kd.C_take (m := (x5_2 : Int).toNat) ((Kd.R_reads' (Kd.R_after (ok := (fun _ => True)) (by (with_reducible repeat (first | apply Kd.R_alloc | apply Kd.R_drewN | apply Kd.R_drew)); exact HO_3.out) hg hat)).2.2) KL22.out)); have n3_ := Aside0.mk (ho); clear HO_3; clear HB; clear HR133; clear HO136; have HO_3 := n0_; have HB := n1_; have HR133 := n2_; have HO140 := n3_; clear n0_ n1_ n2_ n3_; clear ho hb hg hat; have q25 : (x5_2 : Int) ≤ ((x3_1.length : Int) : Int) := of_decide_eq_true (by first | (with_reducible assumption) | assumption); obtain ⟨i025, hi025, _, hsz25, _⟩ := info_parts info34; have hroom25 : x3_1.length ≤ co20 := (Kd.R_reads' HO_3.out).2.1; have hC25 : Kd.C k34 _ (some ad127) x3_1.length x3_1 := (Kd.R_reads' HO_3.out).2.2; have q025 : (0 : Int) ≤ (x5_2 : Int) := of_decide_eq_true (by first | (with_reducible assumption) | assumption); have hcut25 := cut_from (P := Try.prog) 22 34 .i64 Try.underlying22 hi025 6 hsz25 (some ad127) x3_1.length co20 x5_2 q025 q25; have hr25 := Kd.C_drop (m := (x5_2 : Int).toNat) (c := co20) hC25 (by omega) hroom25; obtain ⟨A25, hA25⟩ : ∃ A1, A1 = (if co20 = (x5_2 : Int).toNat then (some ad127) else ((some ad127) : Option Addr).map (·.add ((x5_2 : Int).toNat * 6))) := ⟨_, rfl⟩; obtain ⟨c25, hc25⟩ : ∃ c1, c1 = co20 - (x5_2 : Int).toNat := ⟨_, rfl⟩; have hy25 : y141.length = x3_1.length - (x5_2 : Int).toNat := (by rw [Ny141.out, List.length_drop] <;> omega); rw [show (x3_1).drop (x5_2 : Int).toNat = y141 from Ny141.out.symm] at hr25; replace hr25 : Kd.C k34 _ A25 y141.length y141 := (by rw [hA25]; exact hr25); rw [← hy25, ← hA25, ← hc25] at hcut25; have HR144 := Aside0.mk hr25; have HC144 := Aside0.mk (show y141.length ≤ c25 from by rw [hy25, hc25]; exact Nat.sub_le_sub_right hroom25 _); clear hr25 hC25 hroom25 hi025 hsz25 hc25; have KY25 := Aside0.mk hy25; have KA25 := Aside0.mk hA25; clear hy25 hA25; have KL25 := Aside0.mk (show (x5_2 : Int).toNat ≤ x3_1.length from by omega); replace q25 := eq_true q25) | ((with_reducible refine gate_builtin (b := .append) (xs := #[.tmp 43, .tmp 46]) rfl ?_); at_builtin; refine Kd.R_append_rows k34 (w0 := w) w.heap.size rfl (.tmp 43) (.tmp 46) 22 34 (.agg #[(.int .i64 0), (.int .i64 0), (.int .i64 0), (.int .i64 0), (.int .i64 0), (.int .i64 0)]) 48 rfl Try.underlying22 info34 rfl (by decide) (by omega) v139 y138 y141 _ _ _ (fun k_ => some k_ ≠ (.slice (some ad127) x3_1.length co20 : Value).ownBlock) (fun _ => False) rfl rfl ?aO ?aR (fun _ _ h => h) (fun _ h => h.elim) ?aF ?aB ?aS ?aL ?_; (case aR => repeat (first | exact (by repeat (first | (with_reducible exact HR144.out) | (with_reducible refine Kd.C_alloc ?_ _) | (with_reducible refine Kd.C_drewN ?_ _) | (with_reducible refine Kd.C_drew ?_) | exact HR144.out)) | (with_reducible refine Kd.C_alloc ?_ _) | (with_reducible refine Kd.C_drewN ?_ _) | (with_reducible refine Kd.C_drew ?_))); (case aB => exact (by repeat (first | (with_reducible first | exact HB.out | apply below_alloc | apply pw_below_drewN | apply below_drew1) | exact HB.out))); (case aF => exact (fun k_ hk => Kd.fresh' (Kd.R_lt (by (with_reducible repeat (first | apply Kd.R_alloc | apply Kd.R_drewN | apply Kd.R_drew)); exact HO_3.out)) k_ hk)); (case aO => exact (by (with_reducible repeat (first | apply Kd.R_alloc | apply Kd.R_drewN | apply Kd.R_drew)); exact HO140.out)); (case aS => exact (below_size (by repeat (first | (with_reducible first | exact HB.out | apply below_alloc | apply pw_below_drewN | apply below_drew1) | exact HB.out)))); (case aL => have := LMc18.out; omega); intro v146 w26 ho hb hg hat; rw [← Ny145.out] at ho; have n0_ := Aside0.mk (Kd.R_after (ok := (fun _ => True)) (by (with_reducible repeat (first | apply Kd.R_alloc | apply Kd.R_drewN | apply Kd.R_drew)); exact HO_3.out) hg hat); have n1_ := Aside0.mk (hb); have n2_ := Aside0.mk ((show Kd.C k34 w26 (some ad127) y130.length y130 from by rw [Ny130.out]; exact Kd.C_take (m := (x5_2 : Int).toNat) ((Kd.R_reads' (Kd.R_after (ok := (fun _ => True)) (by (with_reducible repeat (first | apply Kd.R_alloc | apply Kd.R_drewN | apply Kd.R_drew)); exact HO_3.out) hg hat)).2.2) KL22.out)); have n3_ := Aside0.mk ((show Kd.C k34 w26 A25 y141.length y141 from by rw [Ny141.out, KA25.out]; exact Kd.C_drop (m := (x5_2 : Int).toNat) (c := co20) ((Kd.R_reads' (Kd.R_after (ok := (fun _ => True)) (by (with_reducible repeat (first | apply Kd.R_alloc | apply Kd.R_drewN | apply Kd.R_drew)); exact HO_3.out) hg hat)).2.2) KL25.out ((Kd.R_reads' (Kd.R_after (ok := (fun _ => True)) (by (with_reducible repeat (first | apply Kd.R_alloc | apply Kd.R_drewN | apply Kd.R_drew)); exact HO_3.out) hg hat)).2.1))); have n4_ := Aside0.mk (ho); clear HO_3; clear HB; clear HR133; clear HR144; clear HO140; have HO_3 := n0_; have HB := n1_; have HR133 := n2_; have HR144 := n3_; have HO147 := n4_; clear n0_ n1_ n2_ n3_ n4_; clear ho hb hg hat))
                              go_roundg k2
                              case measure => have := HK1.out; have := HK2.out; omega
                              case rel => exact ⟨(y145), (wrap64 (x4_1 + 1)), (by first | rfl | (simp; done) | (simp [*]; done)), H', ⟨by have := HK1.out; have := HK2.out; omega⟩, ⟨by (with_reducible repeat (first | apply Kd.R_alloc | apply Kd.R_drewN | apply Kd.R_drew)); exact Kd.R_mono HO147.out (fun _ hk => trivial)⟩, ⟨by repeat (first | (with_reducible first | exact HB.out | apply below_alloc | apply pw_below_drewN | apply below_drew1) | exact HB.out)⟩⟩
                            · rw [if_neg c18] at H
                              exact absurd H (by simp)
                          · rw [if_neg c15] at H
                            exact absurd H (by simp)
                        · rw [if_neg c14] at H
                          exact absurd H (by simp)
                      · rw [if_neg c13] at H
                        exact absurd H (by simp)
                  · rw [if_neg c6] at H
                    exact absurd H (by simp)
                · rw [if_neg c5] at H
                  exact absurd H (by simp)
              · rw [if_neg c4] at H
                exact absurd H (by simp)
            · rw [if_neg c3] at H
              have c3b0 : decide (x5_2 < (x3_1.length : Int)) = false := decide_eq_false c3
              clear c3
              by_cases c27 : 0 ≤ x5_2
              · rw [if_pos c27] at H
                have c27b0 := eq_true c27
                have c27b1 : decide (0 ≤ x5_2) = true := decide_eq_true c27
                clear c27
                by_cases c28 : x5_2 ≤ (x3_1.length : Int)
                · rw [if_pos c28] at H
                  have c28b0 := eq_true c28
                  have c28b1 : decide (x5_2 ≤ (x3_1.length : Int)) = true := decide_eq_true c28
                  clear c28
                  obtain ⟨y148, hy148⟩ : ∃ y_ : List (S34), y_ = (x3_1.take (x5_2 : Int).toNat) := ⟨_, rfl⟩
                  replace H : (if ([] : List (S34)).length + y148.length < 2932031007402 then ((some (([] : List (S34)) ++ y148 : List (S34))).bind fun y152 => (if 0 ≤ x4_1 then (if x4_1 < (l0.length : Int) then (if y152.length < 2932031007402 then ((some (y152 ++ [(⟨(⟨(rd_T34 l0 x4_1).f0.f0, (rd_T34 l0 x4_1).f0.f1⟩ : S24), (rd_T34 l0 x4_1).f1, (rd_T34 l0 x4_1).f2, (rd_T34 l0 x4_1).f3, (rd_T34 l0 x4_1).f4⟩ : S34)] : List (S34))).bind fun y156 => ((some (x3_1.drop (x5_2 : Int).toNat : List (S34))).bind fun y159 => (if y156.length + y159.length < 2932031007402 then (watchmanref07_Sort.l0 k2 l0 (y156 ++ y159) (wrap64 (x4_1 + 1))) else (none)))) else (none)) else (none)) else (none))) else (none)) = some r := by first | (rw [hy148]; with_reducible exact H) | (have H2_ := (Option.bind_some _ _).symm.trans H; rw [hy148]; with_reducible exact H2_) | (have H2_ := (Option.bind_some _ _).symm.trans H; with_reducible exact H2_) | with_reducible exact H | (rw [hy148]; exact H) | exact H
                  have Ny148 := Aside0.mk hy148
                  clear hy148
                  by_cases c29 : ([] : List (S34)).length + y148.length < 2932031007402
                  · rw [if_pos c29] at H
                    have LMc29 := Aside0.mk c29
                    clear c29
                    obtain ⟨y152, hy152⟩ : ∃ y_ : List (S34), y_ = (([] : List (S34)) ++ y148) := ⟨_, rfl⟩
                    replace H : (if 0 ≤ x4_1 then (if x4_1 < (l0.length : Int) then (if y152.length < 2932031007402 then ((some (y152 ++ [(⟨(⟨(rd_T34 l0 x4_1).f0.f0, (rd_T34 l0 x4_1).f0.f1⟩ : S24), (rd_T34 l0 x4_1).f1, (rd_T34 l0 x4_1).f2, (rd_T34 l0 x4_1).f3, (rd_T34 l0 x4_1).f4⟩ : S34)] : List (S34))).bind fun y156 => ((some (x3_1.drop (x5_2 : Int).toNat : List (S34))).bind fun y159 => (if y156.length + y159.length < 2932031007402 then (watchmanref07_Sort.l0 k2 l0 (y156 ++ y159) (wrap64 (x4_1 + 1))) else (none)))) else (none)) else (none)) else (none)) = some r := by first | (rw [hy152]; with_reducible exact H) | (have H2_ := (Option.bind_some _ _).symm.trans H; rw [hy152]; with_reducible exact H2_) | (have H2_ := (Option.bind_some _ _).symm.trans H; with_reducible exact H2_) | with_reducible exact H | (rw [hy152]; exact H) | exact H
                    have Ny152 := Aside0.mk hy152
                    clear hy152
                    by_cases c30 : 0 ≤ x4_1
                    · rw [if_pos c30] at H
                      have c30b0 : decide (0 ≤ x4_1) = true := decide_eq_true c30
                      clear c30
                      by_cases c31 : x4_1 < (l0.length : Int)
                      · rw [if_pos c31] at H
                        have c31b0 : decide (x4_1 < (l0.length : Int)) = true := decide_eq_true c31
                        clear c31
                        by_cases c32 : y152.length < 2932031007402
                        · rw [if_pos c32] at H
                          have LMc32 := Aside0.mk c32
                          clear c32
                          obtain ⟨y156, hy156⟩ : ∃ y_ : List (S34), y_ = (y152 ++ [(⟨(⟨(rd_T34 l0 x4_1).f0.f0, (rd_T34 l0 x4_1).f0.f1⟩ : S24), (rd_T34 l0 x4_1).f1, (rd_T34 l0 x4_1).f2, (rd_T34 l0 x4_1).f3, (rd_T34 l0 x4_1).f4⟩ : S34)]) := ⟨_, rfl⟩
                          replace H : ((some (x3_1.drop (x5_2 : Int).toNat : List (S34))).bind fun y159 => (if y156.length + y159.length < 2932031007402 then (watchmanref07_Sort.l0 k2 l0 (y156 ++ y159) (wrap64 (x4_1 + 1))) else (none))) = some r := by first | (rw [hy156]; with_reducible exact H) | (have H2_ := (Option.bind_some _ _).symm.trans H; rw [hy156]; with_reducible exact H2_) | (have H2_ := (Option.bind_some _ _).symm.trans H; with_reducible exact H2_) | with_reducible exact H | (rw [hy156]; exact H) | exact H
                          have Ny156 := Aside0.mk hy156
                          clear hy156
                          have c33b0 := eq_true (of_decide_eq_true (by first | (with_reducible assumption) | assumption) : 0 ≤ x5_2)
                          have c34b0 := eq_true (of_decide_eq_true (by first | (with_reducible assumption) | assumption) : x5_2 ≤ (x3_1.length : Int))
                          obtain ⟨y159, hy159⟩ : ∃ y_ : List (S34), y_ = (x3_1.drop (x5_2 : Int).toNat) := ⟨_, rfl⟩
                          replace H : (if y156.length + y159.length < 2932031007402 then (watchmanref07_Sort.l0 k2 l0 (y156 ++ y159) (wrap64 (x4_1 + 1))) else (none)) = some r := by first | (rw [hy159]; with_reducible exact H) | (have H2_ := (Option.bind_some _ _).symm.trans H; rw [hy159]; with_reducible exact H2_) | (have H2_ := (Option.bind_some _ _).symm.trans H; with_reducible exact H2_) | with_reducible exact H | (rw [hy159]; exact H) | exact H
                          have Ny159 := Aside0.mk hy159
                          clear hy159
                          by_cases c35 : y156.length + y159.length < 2932031007402
                          · rw [if_pos c35] at H
                            have LMc35 := Aside0.mk c35
                            clear c35
                            obtain ⟨y163, hy163⟩ : ∃ y_ : List (S34), y_ = (y156 ++ y159) := ⟨_, rfl⟩
                            replace H : (watchmanref07_Sort.l0 k2 l0 y163 (wrap64 (x4_1 + 1))) = some r := by first | (rw [hy163]; with_reducible exact H) | (have H2_ := (Option.bind_some _ _).symm.trans H; rw [hy163]; with_reducible exact H2_) | (have H2_ := (Option.bind_some _ _).symm.trans H; with_reducible exact H2_) | with_reducible exact H | (rw [hy163]; exact H) | exact H
                            have Ny163 := Aside0.mk hy163
                            clear hy163
                            have H' := Aside0.mk H
                            clear H
                            try go_wp2
                            have n0_ := Aside0.mk (Kd.R_drew HO_3.out)
                            have n1_ := Aside0.mk (below_drew1 HB.out)
                            clear HO_3
                            clear HB
                            have HO_3 := n0_
                            have HB := n1_
                            clear n0_ n1_
                            obtain ⟨Ao37, co37, eo37⟩ := Kd.R_slice HO_3.out
                            (first | subst eo37 | (injection eo37 with f1_ f2_ f3_; have f4_ := f1_.symm; have f5_ := f3_.symm; clear f1_ f2_ f3_; subst f4_; subst f5_))
                            refine start_ (n := 16) (S := fun w' => True) (ds := []) #[false, false, false, false, false, false, false, false, false, false, false, false, false, false, false, false] (by kernel_rfl) rfl rfl trivial (fun hHeld => ?_); refine with_tabW watchmanref07_Sort.tab6 watchmanref07_Sort.bits6 (fun HT_ HW_ => ?_)
                            generalize wr.drew = w36 at HO_3 HB hHeld ⊢
                            refine pure_ (i := 0) (N := some 13) (v := ?_) (a' := ?_) #[true, false, false, false, false, false, false, false, false, false, false, false, false, false, false, false] rfl rfl (any_of HT_.out (by kernel_rfl)) (fun _ _ _ h => h) (Or.inl ⟨by rfl, ?_⟩) ?_ ?_
                            rotate_left
                            · intro w'
                              go_simp
                              with_reducible rfl
                            rotate_left
                            · simp only [Act.put, List.setIfInBounds_toArray, List.set_cons_zero, List.set_cons_succ, i64_w, i32_w]
                              rfl
                            refine pure_ (i := 1) (N := some 14) (v := ?_) (a' := ?_) #[true, true, false, false, false, false, false, false, false, false, false, false, false, false, false, false] rfl rfl (any_of HT_.out (by kernel_rfl)) (fun _ _ _ h => h) (Or.inl ⟨by rfl, ?_⟩) ?_ ?_
                            rotate_left
                            · intro w'
                              go_simp
                              with_reducible rfl
                            rotate_left
                            · simp only [Act.put, List.setIfInBounds_toArray, List.set_cons_zero, List.set_cons_succ, i64_w, i32_w]
                              rfl
                            refine pure_ (i := 2) (N := some 15) (v := ?_) (a' := ?_) #[true, true, true, false, false, false, false, false, false, false, false, false, false, false, false, false] rfl rfl (any_of HT_.out (by kernel_rfl)) (fun _ _ _ h => h) (Or.inl ⟨by rfl, ?_⟩) ?_ ?_
                            rotate_left
                            · intro w'
                              go_simp
                              with_reducible rfl
                            rotate_left
                            · simp only [Act.put, List.setIfInBounds_toArray, List.set_cons_zero, List.set_cons_succ, i64_w, i32_w]
                              rfl
                            refine pure_ (i := 3) (N := some 16) (v := ?_) (a' := ?_) #[true, true, true, true, false, false, false, false, false, false, false, false, false, false, false, false] rfl rfl (any_of HT_.out (by kernel_rfl)) (fun _ _ _ h => h) (Or.inl ⟨by rfl, ?_⟩) ?_ ?_
                            rotate_left
                            · intro w'
                              go_simp
                              with_reducible rfl
                            rotate_left
                            · simp only [Act.put, List.setIfInBounds_toArray, List.set_cons_zero, List.set_cons_succ, i64_w, i32_w]
                              rfl
                            refine pure_ (i := 4) (N := some 17) (v := ?_) (a' := ?_) #[true, true, true, true, true, false, false, false, false, false, false, false, false, false, false, false] rfl rfl (any_of HT_.out (by kernel_rfl)) (fun _ _ _ h => h) (Or.inl ⟨by rfl, ?_⟩) ?_ ?_
                            rotate_left
                            · intro w'
                              go_simp
                              with_reducible rfl
                            rotate_left
                            · simp only [Act.put, List.setIfInBounds_toArray, List.set_cons_zero, List.set_cons_succ, i64_w, i32_w]
                              rfl
                            refine pure_ (i := 5) (N := some 18) (v := undef) (a' := ?_) #[true, true, true, true, true, true, false, false, false, false, false, false, false, false, false, false] rfl rfl (any_of HT_.out (by kernel_rfl)) (fun _ _ _ h => h) (Or.inr ⟨by rfl, rfl⟩) ?_ ?_
                            rotate_left
                            · simp only [Act.put, List.setIfInBounds_toArray, List.set_cons_zero, List.set_cons_succ, i64_w, i32_w]
                              rfl
                            refine pure_ (i := 6) (N := some 19) (v := undef) (a' := ?_) #[true, true, true, true, true, true, true, false, false, false, false, false, false, false, false, false] rfl rfl (any_of HT_.out (by kernel_rfl)) (fun _ _ _ h => h) (Or.inr ⟨by rfl, rfl⟩) ?_ ?_
                            rotate_left
                            · simp only [Act.put, List.setIfInBounds_toArray, List.set_cons_zero, List.set_cons_succ, i64_w, i32_w]
                              rfl
                            refine pure_ (i := 7) (N := some 20) (v := undef) (a' := ?_) #[true, true, true, true, true, true, true, true, false, false, false, false, false, false, false, false] rfl rfl (any_of HT_.out (by kernel_rfl)) (fun _ _ _ h => h) (Or.inr ⟨by rfl, rfl⟩) ?_ ?_
                            rotate_left
                            · simp only [Act.put, List.setIfInBounds_toArray, List.set_cons_zero, List.set_cons_succ, i64_w, i32_w]
                              rfl
                            refine pure_ (i := 8) (N := some 21) (v := undef) (a' := ?_) #[true, true, true, true, true, true, true, true, true, false, false, false, false, false, false, false] rfl rfl (any_of HT_.out (by kernel_rfl)) (fun _ _ _ h => h) (Or.inr ⟨by rfl, rfl⟩) ?_ ?_
                            rotate_left
                            · simp only [Act.put, List.setIfInBounds_toArray, List.set_cons_zero, List.set_cons_succ, i64_w, i32_w]
                              rfl
                            refine pure_ (i := 9) (N := some 22) (v := undef) (a' := ?_) #[true, true, true, true, true, true, true, true, true, true, false, false, false, false, false, false] rfl rfl (any_of HT_.out (by kernel_rfl)) (fun _ _ _ h => h) (Or.inr ⟨by rfl, rfl⟩) ?_ ?_
                            rotate_left
                            · simp only [Act.put, List.setIfInBounds_toArray, List.set_cons_zero, List.set_cons_succ, i64_w, i32_w]
                              rfl
                            refine pure_ (i := 10) (N := some 23) (v := undef) (a' := ?_) #[true, true, true, true, true, true, true, true, true, true, true, false, false, false, false, false] rfl rfl (any_of HT_.out (by kernel_rfl)) (fun _ _ _ h => h) (Or.inr ⟨by rfl, rfl⟩) ?_ ?_
                            rotate_left
                            · simp only [Act.put, List.setIfInBounds_toArray, List.set_cons_zero, List.set_cons_succ, i64_w, i32_w]
                              rfl
                            refine pure_ (i := 11) (N := some 24) (v := undef) (a' := ?_) #[true, true, true, true, true, true, true, true, true, true, true, true, false, false, false, false] rfl rfl (any_of HT_.out (by kernel_rfl)) (fun _ _ _ h => h) (Or.inr ⟨by rfl, rfl⟩) ?_ ?_
                            rotate_left
                            · simp only [Act.put, List.setIfInBounds_toArray, List.set_cons_zero, List.set_cons_succ, i64_w, i32_w]
                              rfl
                            refine pure_ (i := 12) (N := some 25) (v := undef) (a' := ?_) #[true, true, true, true, true, true, true, true, true, true, true, true, true, false, false, false] rfl rfl (any_of HT_.out (by kernel_rfl)) (fun _ _ _ h => h) (Or.inr ⟨by rfl, rfl⟩) ?_ ?_
                            rotate_left
                            · simp only [Act.put, List.setIfInBounds_toArray, List.set_cons_zero, List.set_cons_succ, i64_w, i32_w]
                              rfl
                            refine pure_ (i := 13) (N := some 26) (v := undef) (a' := ?_) #[true, true, true, true, true, true, true, true, true, true, true, true, true, true, false, false] rfl rfl (any_of HT_.out (by kernel_rfl)) (fun _ _ _ h => h) (Or.inr ⟨by rfl, rfl⟩) ?_ ?_
                            rotate_left
                            · simp only [Act.put, List.setIfInBounds_toArray, List.set_cons_zero, List.set_cons_succ, i64_w, i32_w]
                              rfl
                            refine pure_ (i := 14) (N := some 27) (v := undef) (a' := ?_) #[true, true, true, true, true, true, true, true, true, true, true, true, true, true, true, false] rfl rfl (any_of HT_.out (by kernel_rfl)) (fun _ _ _ h => h) (Or.inr ⟨by rfl, rfl⟩) ?_ ?_
                            rotate_left
                            · simp only [Act.put, List.setIfInBounds_toArray, List.set_cons_zero, List.set_cons_succ, i64_w, i32_w]
                              rfl
                            refine pure_ (i := 15) (N := some 28) (v := ?_) (a' := ?_) #[true, true, true, true, true, true, true, true, true, true, true, true, true, true, true, true] rfl rfl (any_of HT_.out (by kernel_rfl)) (fun _ _ _ h => h) (Or.inl ⟨by rfl, ?_⟩) ?_ ?_
                            rotate_left
                            · intro w'
                              go_simp
                              with_reducible rfl
                            rotate_left
                            · simp only [Act.put, List.setIfInBounds_toArray, List.set_cons_zero, List.set_cons_succ, i64_w, i32_w]
                              rfl
                            refine done_ (done_of HT_.out (by kernel_rfl)) ?_
                            have q38 : (x5_2 : Int) ≤ ((x3_1.length : Int) : Int) := of_decide_eq_true (by first | (with_reducible assumption) | assumption)
                            obtain ⟨i038, hi038, _, hsz38, _⟩ := info_parts info34
                            have hroom38 : x3_1.length ≤ co37 := (Kd.R_reads' HO_3.out).2.1
                            have hC38 : Kd.C k34 _ Ao37 x3_1.length x3_1 := (Kd.R_reads' HO_3.out).2.2
                            have hcut38 := cut_to (P := Try.prog) 22 34 .i64 Try.underlying22 hi038 Ao37 x3_1.length co37 x5_2 (of_decide_eq_true (by first | (with_reducible assumption) | assumption)) q38 hroom38
                            have hr38 := Kd.C_take (m := (x5_2 : Int).toNat) hC38 (by omega)
                            have hy38 : y148.length = (x5_2 : Int).toNat := (by rw [Ny148.out, List.length_take]; omega)
                            rw [← Ny148.out] at hr38
                            rw [← hy38] at hcut38
                            have HR151 := Aside0.mk hr38
                            have HC151 := Aside0.mk (show y148.length ≤ co37 from by omega)
                            clear hr38 hC38 hroom38 hi038 hsz38
                            have KY38 := Aside0.mk hy38
                            clear hy38
                            have KL38 := Aside0.mk (show (x5_2 : Int).toNat ≤ x3_1.length from by omega)
                            replace q38 := eq_true q38
                            try go_wp2_with (first | ((with_reducible refine gate_builtin (b := .append) (xs := #[.tmp 31, .tmp 34]) rfl ?_); at_builtin; refine Kd.R_append_rows k34 (w0 := w) w.heap.size rfl (.tmp 31) (.tmp 34) 22 34 (.agg #[(.int .i64 0), (.int .i64 0), (.int .i64 0), (.int .i64 0), (.int .i64 0), (.int .i64 0)]) 48 rfl Try.underlying22 info34 rfl (by decide) (by omega) (.slice none 0 0) ([] : List (S34)) y148 _ _ _ (fun k_ => some k_ ≠ (.slice Ao37 x3_1.length co37 : Value).ownBlock) (fun _ => False) rfl rfl ?aO ?aR (fun _ _ h => h) (fun _ h => h.elim) ?aF ?aB ?aS ?aL ?_; (case aR => repeat (first | exact (by repeat (first | (with_reducible exact HR151.out) | (with_reducible refine Kd.C_alloc ?_ _) | (with_reducible refine Kd.C_drewN ?_ _) | (with_reducible refine Kd.C_drew ?_) | exact HR151.out)) | (with_reducible refine Kd.C_alloc ?_ _) | (with_reducible refine Kd.C_drewN ?_ _) | (with_reducible refine Kd.C_drew ?_))); (case aB => exact (by repeat (first | (with_reducible first | exact HB.out | apply below_alloc | apply pw_below_drewN | apply below_drew1) | exact HB.out))); (case aF => exact (fun k_ hk => Kd.fresh' (Kd.R_lt (by (with_reducible repeat (first | apply Kd.R_alloc | apply Kd.R_drewN | apply Kd.R_drew)); exact HO_3.out)) k_ hk)); (case aO => exact ((Kd.R_nil _ _ _ _ (fun k_ => some k_ ≠ (.slice Ao37 x3_1.length co37 : Value).ownBlock)))); (case aS => exact (below_size (by repeat (first | (with_reducible first | exact HB.out | apply below_alloc | apply pw_below_drewN | apply below_drew1) | exact HB.out)))); (case aL => have := LMc29.out; omega); intro v153 w39 ho hb hg hat; rw [← Ny152.out] at ho; have n0_ := Aside0.mk (Kd.R_after (Kd.R_apart_nil (by (with_reducible repeat (first | apply Kd.R_alloc | apply Kd.R_drewN | apply Kd.R_drew)); exact HO_3.out)) hg hat); have n1_ := Aside0.mk (hb); have n2_ := Aside0.mk ((show Kd.C k34 w39 Ao37 y148.length y148 from by rw [Ny148.out]; exact Kd.C_take (m := (x5_2 : Int).toNat) ((Kd.R_reads' (Kd.R_after (Kd.R_apart_nil (by (with_reducible repeat (first | apply Kd.R_alloc | apply Kd.R_drewN | apply Kd.R_drew)); exact HO_3.out)) hg hat)).2.2) KL38.out)); have n3_ := Aside0.mk (ho); clear HO_3; clear HB; clear HR151; have HO_3 := n0_; have HB := n1_; have HR151 := n2_; have HO154 := n3_; clear n0_ n1_ n2_ n3_; clear ho hb hg hat; have p155 : 0 ≤ (x4_1 : Int) := of_decide_eq_true (by first | (with_reducible assumption) | assumption); have q155 : x4_1 < (l0.length : Int) := of_decide_eq_true (by first | (with_reducible assumption) | assumption); obtain ⟨ad155, e155, hx155_0, hx155_1, hx155_2, hx155_3, hx155_4, hx155_5⟩ := at_T34 HR0.out x4_1 p155 q155; cases e155; replace hx155_0 := (HB.out.cell (World.block_lt_of_cell? w _ hx155_0)).trans hx155_0; replace hx155_1 := (HB.out.cell (World.block_lt_of_cell? w _ hx155_1)).trans hx155_1; replace hx155_2 := (HB.out.cell (World.block_lt_of_cell? w _ hx155_2)).trans hx155_2; replace hx155_3 := (HB.out.cell (World.block_lt_of_cell? w _ hx155_3)).trans hx155_3; replace hx155_4 := (HB.out.cell (World.block_lt_of_cell? w _ hx155_4)).trans hx155_4; replace hx155_5 := (HB.out.cell (World.block_lt_of_cell? w _ hx155_5)).trans hx155_5; replace p155 := eq_true p155; replace q155 := eq_true q155) | ((with_reducible refine gate_builtin (b := .append) (xs := #[.tmp 36, .tmp 41]) rfl ?_); at_builtin; refine Kd.R_append k34 (w0 := w) w.heap.size rfl (.tmp 36) (.tmp 41) 22 34 (.agg #[(.int .i64 0), (.int .i64 0), (.int .i64 0), (.int .i64 0), (.int .i64 0), (.int .i64 0)]) 48 rfl Try.underlying22 info34 rfl (by decide) (by omega) v153 y152 (⟨(⟨(rd_T34 l0 x4_1).f0.f0, (rd_T34 l0 x4_1).f0.f1⟩ : S24), (rd_T34 l0 x4_1).f1, (rd_T34 l0 x4_1).f2, (rd_T34 l0 x4_1).f3, (rd_T34 l0 x4_1).f4⟩ : S34) [.int .i64 ((rd_T34 l0 x4_1).f0.f0), .int .i64 ((rd_T34 l0 x4_1).f0.f1), .int .i64 ((rd_T34 l0 x4_1).f1), .int .i64 ((rd_T34 l0 x4_1).f2), .int .i64 ((rd_T34 l0 x4_1).f3), .int .i64 ((rd_T34 l0 x4_1).f4)] (fun k_ => some k_ ≠ (.slice Ao37 x3_1.length co37 : Value).ownBlock) (fun _ => False) rfl rfl ?aP (fun _ hk => hk.elim) ?aF ?aO ?aB ?aS ?aL ?_; (case aP => exact k34_mkM _ _ _ (⟨(⟨(rd_T34 l0 x4_1).f0.f0, (rd_T34 l0 x4_1).f0.f1⟩ : S24), (rd_T34 l0 x4_1).f1, (rd_T34 l0 x4_1).f2, (rd_T34 l0 x4_1).f3, (rd_T34 l0 x4_1).f4⟩ : S34)); (case aB => exact (by repeat (first | (with_reducible first | exact HB.out | apply below_alloc | apply pw_below_drewN | apply below_drew1) | exact HB.out))); (case aF => exact (fun k_ hk => Kd.fresh' (Kd.R_lt (by (with_reducible repeat (first | apply Kd.R_alloc | apply Kd.R_drewN | apply Kd.R_drew)); exact HO_3.out)) k_ hk)); (case aO => exact (by (with_reducible repeat (first | apply Kd.R_alloc | apply Kd.R_drewN | apply Kd.R_drew)); exact HO154.out)); (case aS => exact (below_size (by repeat (first | (with_reducible first | exact HB.out | apply below_alloc | apply pw_below_drewN | apply below_drew1) | exact HB.out)))); (case aL => have := LMc32.out; omega); intro v157 w40 ho hb hg hat; rw [← Ny156.out] at ho; have n0_ := Aside0.mk (Kd.R_after (ok := (fun _ => True)) (by (with_reducible repeat (first | apply Kd.R_alloc | apply Kd.R_drewN | apply Kd.R_drew)); exact HO_3.out) hg hat); have n1_ := Aside0.mk (hb); have n2_ := Aside0.mk ((show Kd.C k34 w40 Ao37 y148.length y148 from by rw [Ny148.out]; exact Kd.C_take (m := (x5_2 : Int).toNat) ((Kd.R_reads' (Kd.R_after (ok := (fun _ => True)) (by (with_reducible repeat (first | apply Kd.R_alloc | apply Kd.R_drewN | apply Kd.R_drew)); exact HO_3.out) hg hat)).2.2) KL38.out)); have n3_ := Aside0.mk (ho); clear HO_3; clear HB; clear HR151; clear HO154; have HO_3 := n0_; have HB := n1_; have HR151 := n2_; have HO158 := n3_; clear n0_ n1_ n2_ n3_; clear ho hb hg hat; have q41 : (x5_2 : Int) ≤ ((x3_1.length : Int) : Int) := of_decide_eq_true (by first | (with_reducible assumption) | assumption); obtain ⟨i041, hi041, _, hsz41, _⟩ := info_parts info34; have hroom41 : x3_1.length ≤ co37 := (Kd.R_reads' HO_3.out).2.1; have hC41 : Kd.C k34 _ Ao37 x3_1.length x3_1 := (Kd.R_reads' HO_3.out).2.2; have q041 : (0 : Int) ≤ (x5_2 : Int) := of_decide_eq_true (by first | (with_reducible assumption) | assumption); have hcut41 := cut_from (P := Try.prog) 22 34 .i64 Try.underlying22 hi041 6 hsz41 Ao37 x3_1.length co37 x5_2 q041 q41; have hr41 := Kd.C_drop (m := (x5_2 : Int).toNat) (c := co37) hC41 (by omega) hroom41; obtain ⟨A41, hA41⟩ : ∃ A1, A1 = (if co37 = (x5_2 : Int).toNat then Ao37 else (Ao37 : Option Addr).map (·.add ((x5_2 : Int).toNat * 6))) := ⟨_, rfl⟩; obtain ⟨c41, hc41⟩ : ∃ c1, c1 = co37 - (x5_2 : Int).toNat := ⟨_, rfl⟩; have hy41 : y159.length = x3_1.length - (x5_2 : Int).toNat := (by rw [Ny159.out, List.length_drop] <;> omega); rw [show (x3_1).drop (x5_2 : Int).toNat = y159 from Ny159.out.symm] at hr41; replace hr41 : Kd.C k34 _ A41 y159.length y159 := (by rw [hA41]; exact hr41); rw [← hy41, ← hA41, ← hc41] at hcut41; have HR162 := Aside0.mk hr41; have HC162 := Aside0.mk (show y159.length ≤ c41 from by rw [hy41, hc41]; exact Nat.sub_le_sub_right hroom41 _); clear hr41 hC41 hroom41 hi041 hsz41 hc41; have KY41 := Aside0.mk hy41; have KA41 := Aside0.mk hA41; clear hy41 hA41; have KL41 := Aside0.mk (show (x5_2 : Int).toNat ≤ x3_1.length from by omega); replace q41 := eq_true q41) | ((with_reducible refine gate_builtin (b := .append) (xs := #[.tmp 43, .tmp 46]) rfl ?_); at_builtin; refine Kd.R_append_rows k34 (w0 := w) w.heap.size rfl (.tmp 43) (.tmp 46) 22 34 (.agg #[(.int .i64 0), (.int .i64 0), (.int .i64 0), (.int .i64 0), (.int .i64 0), (.int .i64 0)]) 48 rfl Try.underlying22 info34 rfl (by decide) (by omega) v157 y156 y159 _ _ _ (fun k_ => some k_ ≠ (.slice Ao37 x3_1.length co37 : Value).ownBlock) (fun _ => False) rfl rfl ?aO ?aR (fun _ _ h => h) (fun _ h => h.elim) ?aF ?aB ?aS ?aL ?_; (case aR => repeat (first | exact (by repeat (first | (with_reducible exact HR162.out) | (with_reducible refine Kd.C_alloc ?_ _) | (with_reducible refine Kd.C_drewN ?_ _) | (with_reducible refine Kd.C_drew ?_) | exact HR162.out)) | (with_reducible refine Kd.C_alloc ?_ _) | (with_reducible refine Kd.C_drewN ?_ _) | (with_reducible refine Kd.C_drew ?_))); (case aB => exact (by repeat (first | (with_reducible first | exact HB.out | apply below_alloc | apply pw_below_drewN | apply below_drew1) | exact HB.out))); (case aF => exact (fun k_ hk => Kd.fresh' (Kd.R_lt (by (with_reducible repeat (first | apply Kd.R_alloc | apply Kd.R_drewN | apply Kd.R_drew)); exact HO_3.out)) k_ hk)); (case aO => exact (by (with_reducible repeat (first | apply Kd.R_alloc | apply Kd.R_drewN | apply Kd.R_drew)); exact HO158.out)); (case aS => exact (below_size (by repeat (first | (with_reducible first | exact HB.out | apply below_alloc | apply pw_below_drewN | apply below_drew1) | exact HB.out)))); (case aL => have := LMc35.out; omega); intro v164 w42 ho hb hg hat; rw [← Ny163.out] at ho; have n0_ := Aside0.mk (Kd.R_after (ok := (fun _ => True)) (by (with_reducible repeat (first | apply Kd.R_alloc | apply Kd.R_drewN | apply Kd.R_drew)); exact HO_3.out) hg hat); have n1_ := Aside0.mk (hb); have n2_ := Aside0.mk ((show Kd.C k34 w42 Ao37 y148.length y148 from by rw [Ny148.out]; exact Kd.C_take (m := (x5_2 : Int).toNat) ((Kd.R_reads' (Kd.R_after (ok := (fun _ => True)) (by (with_reducible repeat (first | apply Kd.R_alloc | apply Kd.R_drewN | apply Kd.R_drew)); exact HO_3.out) hg hat)).2.2) KL38.out)); have n3_ := Aside0.mk ((show Kd.C k34 w42 A41 y159.length y159 from by rw [Ny159.out, KA41.out]; exact Kd.C_drop (m := (x5_2 : Int).toNat) (c := co37) ((Kd.R_reads' (Kd.R_after (ok := (fun _ => True)) (by (with_reducible repeat (first | apply Kd.R_alloc | apply Kd.R_drewN | apply Kd.R_drew)); exact HO_3.out) hg hat)).2.2) KL41.out ((Kd.R_reads' (Kd.R_after (ok := (fun _ => True)) (by (with_reducible repeat (first | apply Kd.R_alloc | apply Kd.R_drewN | apply Kd.R_drew)); exact HO_3.out) hg hat)).2.1))); have n4_ := Aside0.mk (ho); clear HO_3; clear HB; clear HR151; clear HR162; clear HO158; have HO_3 := n0_; have HB := n1_; have HR151 := n2_; have HR162 := n3_; have HO165 := n4_; clear n0_ n1_ n2_ n3_ n4_; clear ho hb hg hat))
                            go_roundg k2
                            case measure => have := HK1.out; have := HK2.out; omega
                            case rel => exact ⟨(y163), (wrap64 (x4_1 + 1)), (by first | rfl | (simp; done) | (simp [*]; done)), H', ⟨by have := HK1.out; have := HK2.out; omega⟩, ⟨by (with_reducible repeat (first | apply Kd.R_alloc | apply Kd.R_drewN | apply Kd.R_drew)); exact Kd.R_mono HO165.out (fun _ hk => trivial)⟩, ⟨by repeat (first | (with_reducible first | exact HB.out | apply below_alloc | apply pw_below_drewN | apply below_drew1) | exact HB.out)⟩⟩
                          · rw [if_neg c35] at H
                            exact absurd H (by simp)
                        · rw [if_neg c32] at H
                          exact absurd H (by simp)
                      · rw [if_neg c31] at H
                        exact absurd H (by simp)
                    · rw [if_neg c30] at H
                      exact absurd H (by simp)
                  · rw [if_neg c29] at H
                    exact absurd H (by simp)
                · rw [if_neg c28] at H
                  exact absurd H (by simp)
              · rw [if_neg c27] at H
                exact absurd H (by simp)
      · rw [if_neg c2] at H
        have c2b0 : decide (x4_1 < (l0.length : Int)) = false := decide_eq_false c2
        clear c2
        obtain rfl := Option.some.inj H
        go_wp2
        go_ret
        exact ⟨_, by first | rfl | (simp [errW_none, errW_some] <;> rfl) | (simp [*, errW_none, errW_some] <;> rfl), by (with_reducible repeat (first | apply Kd.R_alloc | apply Kd.R_drewN | apply Kd.R_drew)); exact HO_3.out, by repeat (first | (with_reducible first | exact HB.out | apply below_alloc | apply pw_below_drewN | apply below_drew1) | exact HB.out)⟩
end Go.Proofs.Ytjjagjehaoidbaa.P

namespace Go.Proofs.Ytjjagjehaoidbaa.P
open Go.RowKit Go.Proofs.YtjjagjehaoidbaaW.PrintWords Go.Proofs.YtjjagjehaoidbaaW.PrintLast Go.Proofs.YtjjagjehaoidbaaW.PrintMore
attribute [local go_sem] max2_int min2_int max_two min_two max_three min_three max_four min_four
set_option linter.unusedVariables false
set_option linter.unusedSimpArgs false
attribute [local go_sem high] eqA24 eqA34
def watchmanref07_Place.l0 : Nat → List (S34) → Int → Int → Int → Option (Int × Bool)
  | 0, _, _, _, _ => none
  | k + 1, x6, x7, x167000, x167001 => if x7 < (x6.length : Int) then (if 0 ≤ x7 then (if (((rd_T34 x6 x7).f0.f0) == x167000 && (((rd_T34 x6 x7).f0.f1) == x167001)) = true then (some (x7, true)) else (watchmanref07_Place.l0 k x6 (wrap64 (x7 + 1)) x167000 x167001)) else (none)) else (some (0, false))
def watchmanref07_Place.f (k : Nat) (l0 : List (S34)) (a1_0 : Int) (a1_1 : Int) : Option (Int × Bool) := (watchmanref07_Sort.f k l0).bind fun t167 => (watchmanref07_Place.l0 k t167 0 a1_0 a1_1)
theorem watchmanref07_Place.mono_l : ∀ k, (∀ y0 y1 y2 y3, LeO (watchmanref07_Place.l0 k y0 y1 y2 y3) (watchmanref07_Place.l0 (k + 1) y0 y1 y2 y3))
  | 0 => fun _ _ _ _ r h => by simp [watchmanref07_Place.l0] at h
  | k + 1 => by
    have ih0 := watchmanref07_Place.mono_l k
    · intro y0 y1 y2 y3
      unfold watchmanref07_Place.l0
      repeat' first
      | (with_reducible exact ih0 _ _ _ _)
      | (with_reducible exact watchmanref07_Sort.mono _ _)
      | (with_reducible exact LeO.refl _)
      | (with_reducible exact LeO.none _)
      | (with_reducible refine LeO.ite ?_ ?_)
      | (with_reducible refine LeO.bind ?_ (fun _ => ?_))
      | exact ih0 _ _ _ _
      | exact watchmanref07_Sort.mono _ _
      | exact LeO.none _
      | refine LeO.ite ?_ ?_
      | refine LeO.bind ?_ (fun _ => ?_)
theorem watchmanref07_Place.mono : ∀ a0 a1 a2 k, LeO (watchmanref07_Place.f k a0 a1 a2) (watchmanref07_Place.f (k + 1) a0 a1 a2) := by
  intro a0 a1 a2 k
  have ih0 := watchmanref07_Place.mono_l k
  unfold watchmanref07_Place.f
  repeat' first
      | (with_reducible exact ih0 _ _ _ _)
      | (with_reducible exact watchmanref07_Sort.mono _ _)
      | (with_reducible exact LeO.refl _)
      | (with_reducible exact LeO.none _)
      | (with_reducible refine LeO.ite ?_ ?_)
      | (with_reducible refine LeO.bind ?_ (fun _ => ?_))
      | exact ih0 _ _ _ _
      | exact watchmanref07_Sort.mono _ _
      | exact LeO.none _
      | refine LeO.ite ?_ ?_
      | refine LeO.bind ?_ (fun _ => ?_)
set_option maxHeartbeats 8000000 in
set_option maxRecDepth 100000 in
theorem watchmanref07_Place.calls (k : Nat) (A0 : Option Addr) (c0 : Nat) (l0 : List (S34)) (a1_0 : Int) (a1_1 : Int) (r1 : Int) (r2 : Bool) (w : World) (hr0 : Kd.C k34 w A0 l0.length l0) (hc0 : l0.length ≤ c0) (h : watchmanref07_Place.f k l0 a1_0 a1_1 = some (r1, r2)) :
    Calls Try.prog 12 #[.slice A0 l0.length c0, .agg #[.int .i64 a1_0, .int .i64 a1_1]] w fun e w' => e = .returned (.tuple #[.int .i64 r1, .bool r2]) ∧ Below w.heap.size w w' := by
  have hu24 := Try.underlying24
  have HR0 := Aside0.mk hr0
  have HC0 := Aside0.mk hc0
  clear hr0 hc0
  have HB := Aside0.mk (Below.refl w.heap.size w)
  have H : ((watchmanref07_Sort.f k l0).bind fun t167 => (watchmanref07_Place.l0 k t167 0 a1_0 a1_1)) = some (r1, r2) := h
  clear h
  replace H := Option.bind_eq_some_iff.mp H
  obtain ⟨t167, A30, H⟩ := H
  replace H : (watchmanref07_Place.l0 k t167 0 a1_0 a1_1) = some (r1, r2) := H
  have A3 := Aside0.mk A30
  clear A30
  have H' := Aside0.mk H
  clear H
  go_enter Try.func12, Try.ntmps12
  go_wp2_with (first | ((with_reducible refine gate_dst (N := 3) rfl ?_); refine box_event ?hg (N := 3) ?hd (cs := #[.int .i64 a1_0, .int .i64 a1_1]) (t := 24) ?hr ?_; (case hd => rfl); (case hg => rfl); (case hr => first | (go_simp; done) | (go_simp; rfl)); intro gb166 hg w4 hbox hb; have n0_ := Aside0.mk (below_step (by repeat (first | (with_reducible first | exact HB.out | apply below_alloc | apply pw_below_drewN | apply below_drew1) | exact HB.out)) hb); have n1_ := Aside0.mk (hbox); have n2_ := Aside0.mk ((by rw [hg]; exact (below_size (by repeat (first | (with_reducible first | exact HB.out | apply below_alloc | apply pw_below_drewN | apply below_drew1) | exact HB.out))) : w.heap.size ≤ gb166)); have n3_ := Aside0.mk ((by rw [hg]; exact (below_size (by repeat (first | (with_reducible first | exact HB.out | apply below_alloc | apply pw_below_drewN | apply below_drew1) | exact HB.out))) : w.heap.size ≤ gb166)); clear HB; have HB := n0_; have BK166 := n1_; have GW166 := n2_; have GE166 := n3_; clear n0_ n1_ n2_ n3_; clear hb hbox hg) | (go_at_call 15; (with_reducible refine (watchmanref07_Sort.calls k _ _ l0 t167 _ ?side1 ?side2 A3.out).mono ?_); (case side1 => repeat (first | exact (Kd.C_below HR0.out HB.out) | (with_reducible refine Kd.C_alloc ?_ _) | (with_reducible refine Kd.C_drewN ?_ _) | (with_reducible refine Kd.C_drew ?_))); (case side2 => exact HC0.out); rintro e w5 ⟨v168, rfl, ho0, hb⟩; have n0_ := Aside0.mk (Kd.R_lower ho0 (below_size (by repeat (first | (with_reducible first | exact HB.out | apply below_alloc | apply pw_below_drewN | apply below_drew1 | refine below_set ?_ GE166.out) | exact HB.out)))); have n1_ := Aside0.mk (blk_below (g := gb166) (o := .cells #[.int .i64 a1_0, .int .i64 a1_1] 24 (0, 0)) (by (with_reducible repeat (first | refine blk_drewN ?_ _ | refine blk_drew ?_ | refine blk_alloc ?_ _)); exact BK166.out) hb); have n2_ := Aside0.mk (below_step (by repeat (first | (with_reducible first | exact HB.out | apply below_alloc | apply pw_below_drewN | apply below_drew1 | refine below_set ?_ GE166.out) | exact HB.out)) hb); clear BK166; clear HB; have HO169 := n0_; have BK166 := n1_; have HB := n2_; clear n0_ n1_ n2_; (try clear hb); (try clear hb2); (try clear hk); (try clear hi); (try clear ho0)))
  repeat (go_quiet (first | ((with_reducible refine gate_dst (N := 3) rfl ?_); refine box_event ?hg (N := 3) ?hd (cs := #[.int .i64 a1_0, .int .i64 a1_1]) (t := 24) ?hr ?_; (case hd => rfl); (case hg => rfl); (case hr => first | (go_simp; done) | (go_simp; rfl)); intro gb166 hg w4 hbox hb; have n0_ := Aside0.mk (below_step (by repeat (first | (with_reducible first | exact HB.out | apply below_alloc | apply pw_below_drewN | apply below_drew1) | exact HB.out)) hb); have n1_ := Aside0.mk (hbox); have n2_ := Aside0.mk ((by rw [hg]; exact (below_size (by repeat (first | (with_reducible first | exact HB.out | apply below_alloc | apply pw_below_drewN | apply below_drew1) | exact HB.out))) : w.heap.size ≤ gb166)); have n3_ := Aside0.mk ((by rw [hg]; exact (below_size (by repeat (first | (with_reducible first | exact HB.out | apply below_alloc | apply pw_below_drewN | apply below_drew1) | exact HB.out))) : w.heap.size ≤ gb166)); clear HB; have HB := n0_; have BK166 := n1_; have GW166 := n2_; have GE166 := n3_; clear n0_ n1_ n2_ n3_; clear hb hbox hg) | (go_at_call 15; (with_reducible refine (watchmanref07_Sort.calls k _ _ l0 t167 _ ?side1 ?side2 A3.out).mono ?_); (case side1 => repeat (first | exact (Kd.C_below HR0.out HB.out) | (with_reducible refine Kd.C_alloc ?_ _) | (with_reducible refine Kd.C_drewN ?_ _) | (with_reducible refine Kd.C_drew ?_))); (case side2 => exact HC0.out); rintro e w5 ⟨v168, rfl, ho0, hb⟩; have n0_ := Aside0.mk (Kd.R_lower ho0 (below_size (by repeat (first | (with_reducible first | exact HB.out | apply below_alloc | apply pw_below_drewN | apply below_drew1 | refine below_set ?_ GE166.out) | exact HB.out)))); have n1_ := Aside0.mk (blk_below (g := gb166) (o := .cells #[.int .i64 a1_0, .int .i64 a1_1] 24 (0, 0)) (by (with_reducible repeat (first | refine blk_drewN ?_ _ | refine blk_drew ?_ | refine blk_alloc ?_ _)); exact BK166.out) hb); have n2_ := Aside0.mk (below_step (by repeat (first | (with_reducible first | exact HB.out | apply below_alloc | apply pw_below_drewN | apply below_drew1 | refine below_set ?_ GE166.out) | exact HB.out)) hb); clear BK166; clear HB; have HO169 := n0_; have BK166 := n1_; have HB := n2_; clear n0_ n1_ n2_; (try clear hb); (try clear hb2); (try clear hk); (try clear hi); (try clear ho0))); try go_wp2_with (first | ((with_reducible refine gate_dst (N := 3) rfl ?_); refine box_event ?hg (N := 3) ?hd (cs := #[.int .i64 a1_0, .int .i64 a1_1]) (t := 24) ?hr ?_; (case hd => rfl); (case hg => rfl); (case hr => first | (go_simp; done) | (go_simp; rfl)); intro gb166 hg w4 hbox hb; have n0_ := Aside0.mk (below_step (by repeat (first | (with_reducible first | exact HB.out | apply below_alloc | apply pw_below_drewN | apply below_drew1) | exact HB.out)) hb); have n1_ := Aside0.mk (hbox); have n2_ := Aside0.mk ((by rw [hg]; exact (below_size (by repeat (first | (with_reducible first | exact HB.out | apply below_alloc | apply pw_below_drewN | apply below_drew1) | exact HB.out))) : w.heap.size ≤ gb166)); have n3_ := Aside0.mk ((by rw [hg]; exact (below_size (by repeat (first | (with_reducible first | exact HB.out | apply below_alloc | apply pw_below_drewN | apply below_drew1) | exact HB.out))) : w.heap.size ≤ gb166)); clear HB; have HB := n0_; have BK166 := n1_; have GW166 := n2_; have GE166 := n3_; clear n0_ n1_ n2_ n3_; clear hb hbox hg) | (go_at_call 15; (with_reducible refine (watchmanref07_Sort.calls k _ _ l0 t167 _ ?side1 ?side2 A3.out).mono ?_); (case side1 => repeat (first | exact (Kd.C_below HR0.out HB.out) | (with_reducible refine Kd.C_alloc ?_ _) | (with_reducible refine Kd.C_drewN ?_ _) | (with_reducible refine Kd.C_drew ?_))); (case side2 => exact HC0.out); rintro e w5 ⟨v168, rfl, ho0, hb⟩; have n0_ := Aside0.mk (Kd.R_lower ho0 (below_size (by repeat (first | (with_reducible first | exact HB.out | apply below_alloc | apply pw_below_drewN | apply below_drew1 | refine below_set ?_ GE166.out) | exact HB.out)))); have n1_ := Aside0.mk (blk_below (g := gb166) (o := .cells #[.int .i64 a1_0, .int .i64 a1_1] 24 (0, 0)) (by (with_reducible repeat (first | refine blk_drewN ?_ _ | refine blk_drew ?_ | refine blk_alloc ?_ _)); exact BK166.out) hb); have n2_ := Aside0.mk (below_step (by repeat (first | (with_reducible first | exact HB.out | apply below_alloc | apply pw_below_drewN | apply below_drew1 | refine below_set ?_ GE166.out) | exact HB.out)) hb); clear BK166; clear HB; have HO169 := n0_; have BK166 := n1_; have HB := n2_; clear n0_ n1_ n2_; (try clear hb); (try clear hb2); (try clear hk); (try clear hi); (try clear ho0))))
  go_loopg [7] k (fun kq v7 w' => ∃ (x7_1 : Int), v7 = .int .i64 x7_1 ∧ Aside0 (watchmanref07_Place.l0 kq t167 x7_1 a1_0 a1_1 = some (r1, r2)) ∧ Aside0 (kq ≤ k) ∧ Aside0 (Kd.R k34 34 w' w.heap.size (fun _ => True) v168 t167) ∧ Aside0 (w'.heap[gb166]? = some (.cells #[.int .i64 a1_0, .int .i64 a1_1] 24 (0, 0))) ∧ Aside0 (Below w.heap.size w w'))
  case atStart => exact ⟨(0), (by first | rfl | (simp; done) | (simp [*]; done)), H', ⟨Nat.le_refl _⟩, ⟨by (with_reducible repeat (first | apply Kd.R_alloc | apply Kd.R_drewN | apply Kd.R_drew)); exact HO169.out⟩, ⟨by (with_reducible repeat (first | refine blk_drewN ?_ _ | refine blk_drew ?_ | refine blk_alloc ?_ _)); exact BK166.out⟩, ⟨by repeat (first | (with_reducible first | exact HB.out | apply below_alloc | apply pw_below_drewN | apply below_drew1 | refine below_set ?_ GE166.out) | exact HB.out)⟩⟩
  case round =>
    clear H'
    try clear c1
    try clear p2
    obtain ⟨x7_1, rfl, HA, HK1, HO_6, BK166, HB⟩ := hrel
    cases gk with
    | zero => exact absurd HA.out (by simp [watchmanref07_Place.l0])
    | succ k1 =>
      have H := HA.out
      clear HA
      simp only [watchmanref07_Place.l0] at H
      by_cases c6 : x7_1 < (t167.length : Int)
      · rw [if_pos c6] at H
        have c6b0 : decide (x7_1 < (t167.length : Int)) = true := decide_eq_true c6
        clear c6
        by_cases c7 : 0 ≤ x7_1
        · rw [if_pos c7] at H
          have c7b0 : decide (0 ≤ x7_1) = true := decide_eq_true c7
          clear c7
          by_cases c8 : (((rd_T34 t167 x7_1).f0.f0) == a1_0 && (((rd_T34 t167 x7_1).f0.f1) == a1_1)) = true
          · rw [if_pos c8] at H
            have c8b0 : (((rd_T34 t167 x7_1).f0.f0) == a1_0 && (((rd_T34 t167 x7_1).f0.f1) == a1_1)) = true := c8
            (try (have c8b1 : decide (((rd_T34 t167 x7_1).f0.f0) = a1_0 && (((rd_T34 t167 x7_1).f0.f1) == a1_1)) = true := by simpa using c8))
            (try (have c8b2 : (((rd_T34 t167 x7_1).f0.f0) == a1_0 && (((rd_T34 t167 x7_1).f0.f1) == a1_1)) = true := by simpa using c8))
            clear c8
            simp only [Option.some.injEq, Prod.mk.injEq] at H
            obtain ⟨rfl, rfl⟩ := H
            obtain ⟨Ao9, co9, eo9⟩ := Kd.R_slice HO_6.out
            subst eo9
            have p170 : 0 ≤ (x7_1 : Int) := of_decide_eq_true (by first | (with_reducible assumption) | assumption)
            have q170 : x7_1 < (t167.length : Int) := of_decide_eq_true (by first | (with_reducible assumption) | assumption)
            obtain ⟨ad170, e170, hx170_0, hx170_1, hx170_2, hx170_3, hx170_4, hx170_5⟩ := at_T34 (Kd.R_reads' HO_6.out).2.2 x7_1 p170 q170
            cases e170
            replace p170 := eq_true p170
            replace q170 := eq_true q170
            have hcz10_0 : wr.cell? ⟨gb166, 0, none⟩ = some (.int .i64 a1_0) := (blk_cell BK166.out 0).trans rfl
            have hcz10_1 : wr.cell? ⟨gb166, 1, none⟩ = some (.int .i64 a1_1) := (blk_cell BK166.out 1).trans rfl
            have hfz10_0 := blk_frozen BK166.out 0
            have hfz10_1 := blk_frozen BK166.out 1
            go_wp2
            repeat (go_quiet (fail); try go_wp2)
            go_ret2
            exact ⟨by first | rfl | (simp [errW_none, errW_some] <;> rfl) | (simp [*, errW_none, errW_some] <;> rfl), by repeat (first | (with_reducible first | exact HB.out | apply below_alloc | apply pw_below_drewN | apply below_drew1 | refine below_set ?_ GE166.out) | exact HB.out)⟩
          · rw [if_neg c8] at H
            have c8b0 : (((rd_T34 t167 x7_1).f0.f0) == a1_0 && (((rd_T34 t167 x7_1).f0.f1) == a1_1)) = false := by simpa using c8
            (try (have c8b1 : decide (((rd_T34 t167 x7_1).f0.f0) = a1_0 && (((rd_T34 t167 x7_1).f0.f1) == a1_1)) = false := by simpa using c8))
            (try (have c8b2 : (((rd_T34 t167 x7_1).f0.f0) == a1_0 && (((rd_T34 t167 x7_1).f0.f1) == a1_1)) = false := by simpa using c8))
            (try (have c8b3 : ¬ (((rd_T34 t167 x7_1).f0.f0) = a1_0 && (((rd_T34 t167 x7_1).f0.f1) == a1_1)) := by simpa using c8))
            clear c8
            have H' := Aside0.mk H
            clear H
            obtain ⟨Ao11, co11, eo11⟩ := Kd.R_slice HO_6.out
            subst eo11
            have p170 : 0 ≤ (x7_1 : Int) := of_decide_eq_true (by first | (with_reducible assumption) | assumption)
            have q170 : x7_1 < (t167.length : Int) := of_decide_eq_true (by first | (with_reducible assumption) | assumption)
            obtain ⟨ad170, e170, hx170_0, hx170_1, hx170_2, hx170_3, hx170_4, hx170_5⟩ := at_T34 (Kd.R_reads' HO_6.out).2.2 x7_1 p170 q170
            cases e170
            replace p170 := eq_true p170
            replace q170 := eq_true q170
            have hcz12_0 : wr.cell? ⟨gb166, 0, none⟩ = some (.int .i64 a1_0) := (blk_cell BK166.out 0).trans rfl
            have hcz12_1 : wr.cell? ⟨gb166, 1, none⟩ = some (.int .i64 a1_1) := (blk_cell BK166.out 1).trans rfl
            have hfz12_0 := blk_frozen BK166.out 0
            have hfz12_1 := blk_frozen BK166.out 1
            go_wp2
            repeat (go_quiet (fail); try go_wp2)
            go_roundg k1
            case measure => have := HK1.out; omega
            case rel => exact ⟨(wrap64 (x7_1 + 1)), (by first | rfl | (simp; done) | (simp [*]; done)), H', ⟨by have := HK1.out; omega⟩, ⟨by (with_reducible repeat (first | apply Kd.R_alloc | apply Kd.R_drewN | apply Kd.R_drew)); exact HO_6.out⟩, ⟨by (with_reducible repeat (first | refine blk_drewN ?_ _ | refine blk_drew ?_ | refine blk_alloc ?_ _)); exact BK166.out⟩, ⟨by repeat (first | (with_reducible first | exact HB.out | apply below_alloc | apply pw_below_drewN | apply below_drew1 | refine below_set ?_ GE166.out) | exact HB.out)⟩⟩
        · rw [if_neg c7] at H
          exact absurd H (by simp)
      · rw [if_neg c6] at H
        have c6b0 : decide (x7_1 < (t167.length : Int)) = false := decide_eq_false c6
        clear c6
        simp only [Option.some.injEq, Prod.mk.injEq] at H
        obtain ⟨rfl, rfl⟩ := H
        obtain ⟨Ao13, co13, eo13⟩ := Kd.R_slice HO_6.out
        subst eo13
        go_wp2
        repeat (go_quiet (fail); try go_wp2)
        go_ret2
        exact ⟨by first | rfl | (simp [errW_none, errW_some] <;> rfl) | (simp [*, errW_none, errW_some] <;> rfl), by repeat (first | (with_reducible first | exact HB.out | apply below_alloc | apply pw_below_drewN | apply below_drew1 | refine below_set ?_ GE166.out) | exact HB.out)⟩
def rank_Merge.f (l0 : List (S34)) (l1 : List (S34)) : Option ((List (S34))) := if l0.length + l1.length ≤ 1000000 then some ((rankA (l0.map toA ++ l1.map toA)).map ofA) else none
theorem rank_Merge.calls (A0 : Option Addr) (c0 : Nat) (l0 : List (S34)) (A1 : Option Addr) (c1 : Nat) (l1 : List (S34)) (r : List (S34)) (w : World) (hr0 : Kd.C k34 w A0 l0.length l0) (hc0 : l0.length ≤ c0) (hr1 : Kd.C k34 w A1 l1.length l1) (hc1 : l1.length ≤ c1) (h : rank_Merge.f l0 l1 = some r) :
    Calls Try.prog 13 #[.slice A0 l0.length c0, .slice A1 l1.length c1] w fun e w' => ∃ v0_ : Value, e = .returned (v0_) ∧ Kd.R k34 34 w' w.heap.size (fun _ => True) v0_ r ∧ Below w.heap.size w w' := by
  by_cases hl : l0.length + l1.length ≤ 1000000
  · unfold rank_Merge.f at h
    rw [if_pos hl] at h
    obtain rfl := Option.some.inj h
    go_enter Try.func13, Try.ntmps13
    go_wp2_with (first
      | (go_at_call 26
         refine (concat_calls (l0.map toA) (l1.map toA) (by simpa using hl) _ _ (two_rel (alarms_rel hr0 hc0) (alarms_rel hr1 hc1))).mono ?_
         rintro e w1 ⟨A, c, rfl, hI, hb⟩)
      | (go_at_call 9
         rw [show (l0.map toA ++ l1.map toA).length = l0.length + l1.length by simp] at hI
         refine (sort_calls A _ c (l0.map toA ++ l1.map toA) (by simpa using hl) w1 hI).mono ?_
         rintro e w2 ⟨v, l', rfl, hp, hr, hown, hb2⟩))
    go_ret
    obtain rfl := rankA_unique hp hr
    have b0 : Below w.heap.size w (w.alloc (.cells #[.slice A0 l0.length c0, .slice A1 l1.length c1] 22)) := (Below.refl _ w).alloc (Nat.le_refl _) _
    have hsz := hb.size
    refine ⟨v, rfl, alarms_own ⟨hown.1, ?_⟩, (b0.trans (hb.mono (by simp))).trans (hb2.mono (by simp at hsz; omega))⟩
    rcases hown.2 with q | ⟨g, cap, cur, q1, q2, q3⟩
    · exact .inl q
    · exact .inr ⟨g, cap, cur, q1, by simp at hsz; omega, q3⟩
  · unfold rank_Merge.f at h
    rw [if_neg hl] at h
    cases h
def watchmanref07_Same.l0 : Nat → List (S34) → List (S34) → Int → Option (Bool)
  | 0, _, _, _ => none
  | k + 1, x0, x1, x5 => if x5 < (x0.length : Int) then (if 0 ≤ x5 then (if x5 < (x1.length : Int) then (if ((!(((rd_T34 x0 x5).f0.f0) == ((rd_T34 x1 x5).f0.f0)) || (!(((rd_T34 x0 x5).f0.f1) == ((rd_T34 x1 x5).f0.f1)))) || (!(((rd_T34 x0 x5).f1) == ((rd_T34 x1 x5).f1)) || (!(((rd_T34 x0 x5).f2) == ((rd_T34 x1 x5).f2)) || (!(((rd_T34 x0 x5).f3) == ((rd_T34 x1 x5).f3)) || (!(((rd_T34 x0 x5).f4) == ((rd_T34 x1 x5).f4))))))) = true then (some false) else (watchmanref07_Same.l0 k x0 x1 (wrap64 (x5 + 1)))) else (none)) else (none)) else (some true)
def watchmanref07_Same.f (k : Nat) (l0 : List (S34)) (l1 : List (S34)) : Option (Bool) := if (l0.length : Int) = (l1.length : Int) then (watchmanref07_Same.l0 k l0 l1 0) else (some false)
theorem watchmanref07_Same.mono_l : ∀ k, (∀ y0 y1 y2, LeO (watchmanref07_Same.l0 k y0 y1 y2) (watchmanref07_Same.l0 (k + 1) y0 y1 y2))
  | 0 => fun _ _ _ r h => by simp [watchmanref07_Same.l0] at h
  | k + 1 => by
    have ih0 := watchmanref07_Same.mono_l k
    · intro y0 y1 y2
      unfold watchmanref07_Same.l0
      repeat' first
      | (with_reducible exact ih0 _ _ _)
      | (with_reducible exact LeO.refl _)
      | (with_reducible exact LeO.none _)
      | (with_reducible refine LeO.ite ?_ ?_)
      | (with_reducible refine LeO.bind ?_ (fun _ => ?_))
      | exact ih0 _ _ _
      | exact LeO.none _
      | refine LeO.ite ?_ ?_
      | refine LeO.bind ?_ (fun _ => ?_)
theorem watchmanref07_Same.mono : ∀ a0 a1 k, LeO (watchmanref07_Same.f k a0 a1) (watchmanref07_Same.f (k + 1) a0 a1) := by
  intro a0 a1 k
  have ih0 := watchmanref07_Same.mono_l k
  unfold watchmanref07_Same.f
  repeat' first
      | (with_reducible exact ih0 _ _ _)
      | (with_reducible exact LeO.refl _)
      | (with_reducible exact LeO.none _)
      | (with_reducible refine LeO.ite ?_ ?_)
      | (with_reducible refine LeO.bind ?_ (fun _ => ?_))
      | exact ih0 _ _ _
      | exact LeO.none _
      | refine LeO.ite ?_ ?_
      | refine LeO.bind ?_ (fun _ => ?_)
set_option maxHeartbeats 8000000 in
set_option maxRecDepth 100000 in
theorem watchmanref07_Same.calls (k : Nat) (A0 : Option Addr) (c0 : Nat) (l0 : List (S34)) (A1 : Option Addr) (c1 : Nat) (l1 : List (S34)) (r : Bool) (w : World) (hr0 : Kd.C k34 w A0 l0.length l0) (hc0 : l0.length ≤ c0) (hr1 : Kd.C k34 w A1 l1.length l1) (hc1 : l1.length ≤ c1) (h : watchmanref07_Same.f k l0 l1 = some r) :
    Calls Try.prog 14 #[.slice A0 l0.length c0, .slice A1 l1.length c1] w fun e w' => e = .returned (.bool r) ∧ Drawn0 w w' := by
  have hu34 := Try.underlying34
  have HR0 := Aside0.mk hr0
  have HC0 := Aside0.mk hc0
  clear hr0 hc0
  have HR1 := Aside0.mk hr1
  have HC1 := Aside0.mk hc1
  clear hr1 hc1
  have H : (if (l0.length : Int) = (l1.length : Int) then (watchmanref07_Same.l0 k l0 l1 0) else (some false)) = some r := h
  clear h
  by_cases c3 : (l0.length : Int) = (l1.length : Int)
  · rw [if_pos c3] at H
    have c3b0 : ((l0.length : Int) == (l1.length : Int)) = true := beq_iff_eq.mpr c3
    have c3b1 : ((l0.length : Int) != (l1.length : Int)) = false := bne_eq_false_iff_eq.mpr c3
    have c3b2 : (l0.length == l1.length) = true := by first | simpa using c3 | (simp at c3 ⊢; omega)
    clear c3
    have H' := Aside0.mk H
    clear H
    go_enter Try.func14, Try.ntmps14
    go_wp2
    repeat (go_quiet (fail); try go_wp2)
    go_loopg [5] k (fun kq v5 w' => ∃ (x5_1 : Int), v5 = .int .i64 x5_1 ∧ Aside0 (watchmanref07_Same.l0 kq l0 l1 x5_1 = some r) ∧ Aside0 (kq ≤ k) ∧ Drawn0 w w')
    case atStart => exact ⟨(0), (by first | rfl | (simp; done) | (simp [*]; done)), H', ⟨Nat.le_refl _⟩, by repeat (first | exact Drawn0.refl _ | apply Drawn0.step)⟩
    case round =>
      clear H'
      try clear c1
      try clear p2
      try clear c3
      try clear c3b0
      try clear c3b1
      try clear c3b2
      obtain ⟨x5_1, rfl, HA, HK1, ⟨m1, rfl⟩⟩ := hrel
      cases gk with
      | zero => exact absurd HA.out (by simp [watchmanref07_Same.l0])
      | succ k1 =>
        have H := HA.out
        clear HA
        simp only [watchmanref07_Same.l0] at H
        by_cases c4 : x5_1 < (l0.length : Int)
        · rw [if_pos c4] at H
          have c4b0 : decide (x5_1 < (l0.length : Int)) = true := decide_eq_true c4
          clear c4
          by_cases c5 : 0 ≤ x5_1
          · rw [if_pos c5] at H
            have c5b0 : decide (0 ≤ x5_1) = true := decide_eq_true c5
            clear c5
            by_cases c6 : x5_1 < (l1.length : Int)
            · rw [if_pos c6] at H
              have c6b0 : decide (x5_1 < (l1.length : Int)) = true := decide_eq_true c6
              clear c6
              by_cases c7 : ((!(((rd_T34 l0 x5_1).f0.f0) == ((rd_T34 l1 x5_1).f0.f0)) || (!(((rd_T34 l0 x5_1).f0.f1) == ((rd_T34 l1 x5_1).f0.f1)))) || (!(((rd_T34 l0 x5_1).f1) == ((rd_T34 l1 x5_1).f1)) || (!(((rd_T34 l0 x5_1).f2) == ((rd_T34 l1 x5_1).f2)) || (!(((rd_T34 l0 x5_1).f3) == ((rd_T34 l1 x5_1).f3)) || (!(((rd_T34 l0 x5_1).f4) == ((rd_T34 l1 x5_1).f4))))))) = true
              · rw [if_pos c7] at H
                have c7b0 : ((!(((rd_T34 l0 x5_1).f0.f0) == ((rd_T34 l1 x5_1).f0.f0)) || (!(((rd_T34 l0 x5_1).f0.f1) == ((rd_T34 l1 x5_1).f0.f1)))) || (!(((rd_T34 l0 x5_1).f1) == ((rd_T34 l1 x5_1).f1)) || (!(((rd_T34 l0 x5_1).f2) == ((rd_T34 l1 x5_1).f2)) || (!(((rd_T34 l0 x5_1).f3) == ((rd_T34 l1 x5_1).f3)) || (!(((rd_T34 l0 x5_1).f4) == ((rd_T34 l1 x5_1).f4))))))) = true := c7
                clear c7
                obtain rfl := Option.some.inj H
                have p171 : 0 ≤ (x5_1 : Int) := of_decide_eq_true (by first | (with_reducible assumption) | assumption)
                have q171 : x5_1 < (l0.length : Int) := of_decide_eq_true (by first | (with_reducible assumption) | assumption)
                obtain ⟨ad171, e171, hx171_0, hx171_1, hx171_2, hx171_3, hx171_4, hx171_5⟩ := at_T34 HR0.out x5_1 p171 q171
                cases e171
                replace p171 := eq_true p171
                replace q171 := eq_true q171
                have p172 : 0 ≤ (x5_1 : Int) := of_decide_eq_true (by first | (with_reducible assumption) | assumption)
                have q172 : x5_1 < (l1.length : Int) := of_decide_eq_true (by first | (with_reducible assumption) | assumption)
                obtain ⟨ad172, e172, hx172_0, hx172_1, hx172_2, hx172_3, hx172_4, hx172_5⟩ := at_T34 HR1.out x5_1 p172 q172
                cases e172
                replace p172 := eq_true p172
                replace q172 := eq_true q172
                go_wp2
                repeat (go_quiet (fail); try go_wp2)
                go_ret
                exact ⟨by first | rfl | (simp; done) | (simp [*]; done), by repeat (first | exact Drawn0.refl _ | apply Drawn0.step)⟩
              · rw [if_neg c7] at H
                have c7b0 : ((!(((rd_T34 l0 x5_1).f0.f0) == ((rd_T34 l1 x5_1).f0.f0)) || (!(((rd_T34 l0 x5_1).f0.f1) == ((rd_T34 l1 x5_1).f0.f1)))) || (!(((rd_T34 l0 x5_1).f1) == ((rd_T34 l1 x5_1).f1)) || (!(((rd_T34 l0 x5_1).f2) == ((rd_T34 l1 x5_1).f2)) || (!(((rd_T34 l0 x5_1).f3) == ((rd_T34 l1 x5_1).f3)) || (!(((rd_T34 l0 x5_1).f4) == ((rd_T34 l1 x5_1).f4))))))) = false := by simpa using c7
                clear c7
                have H' := Aside0.mk H
                clear H
                have p171 : 0 ≤ (x5_1 : Int) := of_decide_eq_true (by first | (with_reducible assumption) | assumption)
                have q171 : x5_1 < (l0.length : Int) := of_decide_eq_true (by first | (with_reducible assumption) | assumption)
                obtain ⟨ad171, e171, hx171_0, hx171_1, hx171_2, hx171_3, hx171_4, hx171_5⟩ := at_T34 HR0.out x5_1 p171 q171
                cases e171
                replace p171 := eq_true p171
                replace q171 := eq_true q171
                have p172 : 0 ≤ (x5_1 : Int) := of_decide_eq_true (by first | (with_reducible assumption) | assumption)
                have q172 : x5_1 < (l1.length : Int) := of_decide_eq_true (by first | (with_reducible assumption) | assumption)
                obtain ⟨ad172, e172, hx172_0, hx172_1, hx172_2, hx172_3, hx172_4, hx172_5⟩ := at_T34 HR1.out x5_1 p172 q172
                cases e172
                replace p172 := eq_true p172
                replace q172 := eq_true q172
                go_wp2
                repeat (go_quiet (fail); try go_wp2)
                go_roundg k1
                case measure => have := HK1.out; omega
                case rel => exact ⟨(wrap64 (x5_1 + 1)), (by first | rfl | (simp; done) | (simp [*]; done)), H', ⟨by have := HK1.out; omega⟩, by repeat (first | exact Drawn0.refl _ | apply Drawn0.step)⟩
            · rw [if_neg c6] at H
              exact absurd H (by simp)
          · rw [if_neg c5] at H
            exact absurd H (by simp)
        · rw [if_neg c4] at H
          have c4b0 : decide (x5_1 < (l0.length : Int)) = false := decide_eq_false c4
          clear c4
          obtain rfl := Option.some.inj H
          go_wp2
          repeat (go_quiet (fail); try go_wp2)
          go_ret
          exact ⟨by first | rfl | (simp; done) | (simp [*]; done), by repeat (first | exact Drawn0.refl _ | apply Drawn0.step)⟩
  · rw [if_neg c3] at H
    have c3b0 : ((l0.length : Int) == (l1.length : Int)) = false := beq_eq_false_iff_ne.mpr c3
    have c3b1 : ((l0.length : Int) != (l1.length : Int)) = true := bne_iff_ne.mpr c3
    have c3b2 : (l0.length == l1.length) = false := by first | simpa using c3 | (simp at c3 ⊢; omega)
    obtain rfl := Option.some.inj H
    go_enter Try.func14, Try.ntmps14
    go_wp2
    repeat (go_quiet (fail); try go_wp2)
    go_ret
    exact ⟨by first | rfl | (simp; done) | (simp [*]; done), by repeat (first | exact Drawn0.refl _ | apply Drawn0.step)⟩
def watchmanref07_Top.f (k : Nat) (a0 : Int) (l1 : List (S34)) : Option ((List (S34))) := if a0 < 1 then (some ([] : List (S34))) else ((watchmanref07_Sort.f k l1).bind fun t173 => (if 0 ≤ (mn a0 (t173.length : Int)) then (if (mn a0 (t173.length : Int)) ≤ (t173.length : Int) then ((watchmanref07_Own.f (t173.take ((mn a0 (t173.length : Int)) : Int).toNat)).bind fun t180 => (some t180)) else (none)) else (none)))
theorem watchmanref07_Top.mono : ∀ a0 a1 k, LeO (watchmanref07_Top.f k a0 a1) (watchmanref07_Top.f (k + 1) a0 a1) := by
  intro a0 a1 k
  unfold watchmanref07_Top.f
  repeat' first
      | (with_reducible exact watchmanref07_Sort.mono _ _)
      | (with_reducible exact LeO.refl _)
      | (with_reducible exact LeO.none _)
      | (with_reducible refine LeO.ite ?_ ?_)
      | (with_reducible refine LeO.bind ?_ (fun _ => ?_))
      | exact watchmanref07_Sort.mono _ _
      | exact LeO.none _
      | refine LeO.ite ?_ ?_
      | refine LeO.bind ?_ (fun _ => ?_)
set_option maxHeartbeats 8000000 in
set_option maxRecDepth 100000 in
theorem watchmanref07_Top.calls (k : Nat) (a0 : Int) (A1 : Option Addr) (c1 : Nat) (l1 : List (S34)) (r : List (S34)) (w : World) (hr1 : Kd.C k34 w A1 l1.length l1) (hc1 : l1.length ≤ c1) (h : watchmanref07_Top.f k a0 l1 = some r) :
    Calls Try.prog 16 #[.int .i64 a0, .slice A1 l1.length c1] w fun e w' => ∃ v0_ : Value, e = .returned (v0_) ∧ Kd.R k34 34 w' w.heap.size (fun _ => True) v0_ r ∧ Below w.heap.size w w' := by
  have HR1 := Aside0.mk hr1
  have HC1 := Aside0.mk hc1
  clear hr1 hc1
  have HB := Aside0.mk (Below.refl w.heap.size w)
  have H : (if a0 < 1 then (some ([] : List (S34))) else ((watchmanref07_Sort.f k l1).bind fun t173 => (if 0 ≤ (mn a0 (t173.length : Int)) then (if (mn a0 (t173.length : Int)) ≤ (t173.length : Int) then ((watchmanref07_Own.f (t173.take ((mn a0 (t173.length : Int)) : Int).toNat)).bind fun t180 => (some t180)) else (none)) else (none)))) = some r := h
  clear h
  by_cases c3 : a0 < 1
  · rw [if_pos c3] at H
    have c3b0 : decide (a0 < 1) = true := decide_eq_true c3
    clear c3
    obtain rfl := Option.some.inj H
    go_enter Try.func16, Try.ntmps16
    go_wp2
    go_ret
    exact ⟨_, by first | rfl | (simp [errW_none, errW_some] <;> rfl) | (simp [*, errW_none, errW_some] <;> rfl), by first | exact Kd.R_nil _ _ _ _ _ | exact Kd.N_nil _ _ _ _ _ | exact Kd.V_nil _ _ _ _ _ | exact Kd.Q_nil _ _ _ _ _ | exact Kd.S_nil _ _ _ _ _, by repeat (first | (with_reducible first | exact HB.out | apply below_alloc | apply pw_below_drewN | apply below_drew1) | exact HB.out)⟩
  · rw [if_neg c3] at H
    have c3b0 : decide (a0 < 1) = false := decide_eq_false c3
    clear c3
    replace H := Option.bind_eq_some_iff.mp H
    obtain ⟨t173, A40, H⟩ := H
    replace H : (if 0 ≤ (mn a0 (t173.length : Int)) then (if (mn a0 (t173.length : Int)) ≤ (t173.length : Int) then ((watchmanref07_Own.f (t173.take ((mn a0 (t173.length : Int)) : Int).toNat)).bind fun t180 => (some t180)) else (none)) else (none)) = some r := H
    have A4 := Aside0.mk A40
    clear A40
    obtain ⟨ji5, hji5⟩ : ∃ j_ : Int, (mn a0 (t173.length : Int)) = j_ := ⟨_, rfl⟩
    replace H : (if 0 ≤ (ji5) then (if (ji5) ≤ (t173.length : Int) then ((watchmanref07_Own.f (t173.take ((ji5) : Int).toNat)).bind fun t180 => (some t180)) else (none)) else (none)) = some r := by first | (rw [hji5] at H; exact H) | (simp only [hji5] at H ⊢; exact H)
    (try rw [hji5] at A4)
    have hji5_ : (if (t173.length : Int) < a0 then (t173.length : Int) else a0) = ji5 := hji5
    by_cases c6 : 0 ≤ (ji5)
    · rw [if_pos c6] at H
      have c6b0 := eq_true c6
      have c6b1 : decide (0 ≤ (ji5)) = true := decide_eq_true c6
      clear c6
      by_cases c7 : (ji5) ≤ (t173.length : Int)
      · rw [if_pos c7] at H
        have c7b0 := eq_true c7
        have c7b1 : decide ((ji5) ≤ (t173.length : Int)) = true := decide_eq_true c7
        clear c7
        obtain ⟨y176, hy176⟩ : ∃ y_ : List (S34), y_ = (t173.take ((ji5) : Int).toNat) := ⟨_, rfl⟩
        replace H : ((watchmanref07_Own.f y176).bind fun t180 => (some t180)) = some r := by first | (rw [hy176]; with_reducible exact H) | (have H2_ := (Option.bind_some _ _).symm.trans H; rw [hy176]; with_reducible exact H2_) | (have H2_ := (Option.bind_some _ _).symm.trans H; with_reducible exact H2_) | with_reducible exact H | (rw [hy176]; exact H) | exact H
        have Ny176 := Aside0.mk hy176
        clear hy176
        replace H := Option.bind_eq_some_iff.mp H
        obtain ⟨t180, A80, H⟩ := H
        replace H : (some t180) = some r := H
        have A8 := Aside0.mk A80
        clear A80
        obtain rfl := Option.some.inj H
        go_enter Try.func16, Try.ntmps16
        go_wp2_with (first | ((with_reducible refine gate_callee (f := 15) rfl ?_); refine goesL_ (some 9) rfl rfl Try.func15 (by kernel_rfl) rfl #[.slice A1 l1.length c1] rfl (by (try simp only [List.map_toArray, List.map_cons, List.map_nil]); first | done | rfl | (simp only [List.length_drop, List.length_take]; rfl)) ?_; (with_reducible refine (watchmanref07_Sort.calls k _ _ l1 t173 _ ?side1 ?side2 A4.out).mono ?_); (case side1 => repeat (first | exact HR1.out | (with_reducible refine Kd.C_alloc ?_ _) | (with_reducible refine Kd.C_drewN ?_ _) | (with_reducible refine Kd.C_drew ?_))); (case side2 => exact HC1.out); rintro e w9 ⟨v174, rfl, ho0, hb⟩; refine ⟨_, rfl, ?_⟩; have n0_ := Aside0.mk (Kd.R_lower ho0 (below_size (by repeat (first | (with_reducible first | exact HB.out | apply below_alloc | apply pw_below_drewN | apply below_drew1) | exact HB.out)))); have n1_ := Aside0.mk (below_step (by repeat (first | (with_reducible first | exact HB.out | apply below_alloc | apply pw_below_drewN | apply below_drew1) | exact HB.out)) hb); clear HB; have HO175 := n0_; have HB := n1_; clear n0_ n1_; (try clear hb); (try clear hb2); (try clear hk); (try clear hi); (try clear ho0); obtain ⟨Ao10, co10, eo10⟩ := Kd.R_slice HO175.out; subst eo10; have q11 : ((ji5) : Int) ≤ ((t173.length : Int) : Int) := of_decide_eq_true (by first | (with_reducible assumption) | assumption); obtain ⟨i011, hi011, _, hsz11, _⟩ := info_parts info34; have hroom11 : t173.length ≤ co10 := (Kd.R_reads' HO175.out).2.1; have hC11 : Kd.C k34 _ Ao10 t173.length t173 := (Kd.R_reads' HO175.out).2.2; have hcut11 := cut_to (P := Try.prog) 22 34 .i64 Try.underlying22 hi011 Ao10 t173.length co10 (ji5) (of_decide_eq_true (by first | (with_reducible assumption) | assumption)) q11 hroom11; have hr11 := Kd.C_take (m := ((ji5) : Int).toNat) hC11 (by omega); have hy11 : y176.length = ((ji5) : Int).toNat := (by rw [Ny176.out, List.length_take]; omega); rw [← Ny176.out] at hr11; rw [← hy11] at hcut11; have HR179 := Aside0.mk hr11; have HC179 := Aside0.mk (show y176.length ≤ co10 from by omega); clear hr11 hC11 hroom11 hi011 hsz11; have KY11 := Aside0.mk hy11; clear hy11; have KL11 := Aside0.mk (show ((ji5) : Int).toNat ≤ t173.length from by omega); replace q11 := eq_true q11) | ((with_reducible refine gate_callee (f := 8) rfl ?_); refine goesL_ (some 16) rfl rfl Try.func8 (by kernel_rfl) rfl #[.slice Ao10 y176.length co10] rfl (by (try simp only [List.map_toArray, List.map_cons, List.map_nil]); first | done | rfl | (simp only [List.length_drop, List.length_take]; rfl)) ?_; (with_reducible refine (watchmanref07_Own.calls _ _ y176 t180 _ ?side1 ?side2 A8.out).mono ?_); (case side1 => repeat (first | exact (by repeat (first | (with_reducible exact HR179.out) | (with_reducible refine Kd.C_alloc ?_ _) | (with_reducible refine Kd.C_drewN ?_ _) | (with_reducible refine Kd.C_drew ?_) | exact HR179.out)) | (with_reducible refine Kd.C_alloc ?_ _) | (with_reducible refine Kd.C_drewN ?_ _) | (with_reducible refine Kd.C_drew ?_))); (case side2 => exact HC179.out); rintro e w12 ⟨v181, rfl, ho0, hb⟩; refine ⟨_, rfl, ?_⟩; have n0_ := Aside0.mk (Kd.R_elder' (by (with_reducible repeat (first | apply Kd.R_alloc | apply Kd.R_drewN | apply Kd.R_drew)); exact HO175.out) (Kd.R_base ho0) hb); have n1_ := Aside0.mk (Kd.R_lower (Kd.R_new' ho0 (Kd.R_lt (by (with_reducible repeat (first | apply Kd.R_alloc | apply Kd.R_drewN | apply Kd.R_drew)); exact HO175.out))) (below_size (by repeat (first | (with_reducible first | exact HB.out | apply below_alloc | apply pw_below_drewN | apply below_drew1) | exact HB.out)))); have n2_ := Aside0.mk (Kd.C_below (by repeat (first | (with_reducible exact HR179.out) | (with_reducible refine Kd.C_alloc ?_ _) | (with_reducible refine Kd.C_drewN ?_ _) | (with_reducible refine Kd.C_drew ?_) | exact HR179.out)) hb); have n3_ := Aside0.mk (below_step (by repeat (first | (with_reducible first | exact HB.out | apply below_alloc | apply pw_below_drewN | apply below_drew1) | exact HB.out)) hb); clear HO175; clear HR179; clear HB; have HO175 := n0_; have HO182 := n1_; have HR179 := n2_; have HB := n3_; clear n0_ n1_ n2_ n3_; (try clear hb); (try clear hb2); (try clear hk); (try clear hi); (try clear ho0)))
        go_ret
        exact ⟨_, by first | rfl | (simp [errW_none, errW_some] <;> rfl) | (simp only [← hji5]; first | rfl | (simp [errW_none, errW_some] <;> rfl)) | (simp [*, errW_none, errW_some] <;> rfl), by (with_reducible repeat (first | apply Kd.R_alloc | apply Kd.R_drewN | apply Kd.R_drew)); exact Kd.R_mono HO182.out (fun _ hk => trivial), by repeat (first | (with_reducible first | exact HB.out | apply below_alloc | apply pw_below_drewN | apply below_drew1) | exact HB.out)⟩
      · rw [if_neg c7] at H
        exact absurd H (by simp)
    · rw [if_neg c6] at H
      exact absurd H (by simp)
def watchmanref07_Merge.f (k : Nat) (l0 : List (S34)) (l1 : List (S34)) : Option ((List (S34))) := if ([] : List (S34)).length + l0.length < 2932031007402 then ((some (([] : List (S34)) ++ l0 : List (S34))).bind fun y183 => (if y183.length + l1.length < 2932031007402 then ((watchmanref07_Sort.f k (y183 ++ l1)).bind fun t189 => (some t189)) else (none))) else (none)
theorem watchmanref07_Merge.mono : ∀ a0 a1 k, LeO (watchmanref07_Merge.f k a0 a1) (watchmanref07_Merge.f (k + 1) a0 a1) := by
  intro a0 a1 k
  unfold watchmanref07_Merge.f
  repeat' first
      | (with_reducible exact watchmanref07_Sort.mono _ _)
      | (with_reducible exact LeO.refl _)
      | (with_reducible exact LeO.none _)
      | (with_reducible refine LeO.ite ?_ ?_)
      | (with_reducible refine LeO.bind ?_ (fun _ => ?_))
      | exact watchmanref07_Sort.mono _ _
      | exact LeO.none _
      | refine LeO.ite ?_ ?_
      | refine LeO.bind ?_ (fun _ => ?_)
set_option maxHeartbeats 8000000 in
set_option maxRecDepth 100000 in
theorem watchmanref07_Merge.calls (k : Nat) (A0 : Option Addr) (c0 : Nat) (l0 : List (S34)) (A1 : Option Addr) (c1 : Nat) (l1 : List (S34)) (r : List (S34)) (w : World) (hr0 : Kd.C k34 w A0 l0.length l0) (hc0 : l0.length ≤ c0) (hr1 : Kd.C k34 w A1 l1.length l1) (hc1 : l1.length ≤ c1) (h : watchmanref07_Merge.f k l0 l1 = some r) :
    Calls Try.prog 17 #[.slice A0 l0.length c0, .slice A1 l1.length c1] w fun e w' => ∃ v0_ : Value, e = .returned (v0_) ∧ Kd.R k34 34 w' w.heap.size (fun _ => True) v0_ r ∧ Below w.heap.size w w' := by
  have HR0 := Aside0.mk hr0
  have HC0 := Aside0.mk hc0
  clear hr0 hc0
  have HR1 := Aside0.mk hr1
  have HC1 := Aside0.mk hc1
  clear hr1 hc1
  have HB := Aside0.mk (Below.refl w.heap.size w)
  have H : (if ([] : List (S34)).length + l0.length < 2932031007402 then ((some (([] : List (S34)) ++ l0 : List (S34))).bind fun y183 => (if y183.length + l1.length < 2932031007402 then ((watchmanref07_Sort.f k (y183 ++ l1)).bind fun t189 => (some t189)) else (none))) else (none)) = some r := h
  clear h
  by_cases c3 : ([] : List (S34)).length + l0.length < 2932031007402
  · rw [if_pos c3] at H
    have LMc3 := Aside0.mk c3
    clear c3
    obtain ⟨y183, hy183⟩ : ∃ y_ : List (S34), y_ = (([] : List (S34)) ++ l0) := ⟨_, rfl⟩
    replace H : (if y183.length + l1.length < 2932031007402 then ((watchmanref07_Sort.f k (y183 ++ l1)).bind fun t189 => (some t189)) else (none)) = some r := by first | (rw [hy183]; with_reducible exact H) | (have H2_ := (Option.bind_some _ _).symm.trans H; rw [hy183]; with_reducible exact H2_) | (have H2_ := (Option.bind_some _ _).symm.trans H; with_reducible exact H2_) | with_reducible exact H | (rw [hy183]; exact H) | exact H
    have Ny183 := Aside0.mk hy183
    clear hy183
    by_cases c4 : y183.length + l1.length < 2932031007402
    · rw [if_pos c4] at H
      have LMc4 := Aside0.mk c4
      clear c4
      obtain ⟨y186, hy186⟩ : ∃ y_ : List (S34), y_ = (y183 ++ l1) := ⟨_, rfl⟩
      replace H : ((watchmanref07_Sort.f k y186).bind fun t189 => (some t189)) = some r := by first | (rw [hy186]; with_reducible exact H) | (have H2_ := (Option.bind_some _ _).symm.trans H; rw [hy186]; with_reducible exact H2_) | (have H2_ := (Option.bind_some _ _).symm.trans H; with_reducible exact H2_) | with_reducible exact H | (rw [hy186]; exact H) | exact H
      have Ny186 := Aside0.mk hy186
      clear hy186
      replace H := Option.bind_eq_some_iff.mp H
      obtain ⟨t189, A50, H⟩ := H
      replace H : (some t189) = some r := H
      have A5 := Aside0.mk A50
      clear A50
      obtain rfl := Option.some.inj H
      go_enter Try.func17, Try.ntmps17
      go_wp2_with (first | ((with_reducible refine gate_builtin (b := .append) (xs := #[.tmp 6, .tmp 7]) rfl ?_); at_builtin; refine Kd.R_append_rows k34 (w0 := w) w.heap.size rfl (.tmp 6) (.tmp 7) 22 34 (.agg #[(.int .i64 0), (.int .i64 0), (.int .i64 0), (.int .i64 0), (.int .i64 0), (.int .i64 0)]) 48 rfl Try.underlying22 info34 rfl (by decide) (by omega) (.slice none 0 0) ([] : List (S34)) l0 _ _ _ (fun _ => True) (fun _ => False) rfl rfl ?aO ?aR (fun _ _ h => h) (fun _ h => h.elim) ?aF ?aB ?aS ?aL ?_; (case aR => repeat (first | exact HR0.out | (with_reducible refine Kd.C_alloc ?_ _) | (with_reducible refine Kd.C_drewN ?_ _) | (with_reducible refine Kd.C_drew ?_))); (case aB => exact (by repeat (first | (with_reducible first | exact HB.out | apply below_alloc | apply pw_below_drewN | apply below_drew1) | exact HB.out))); (case aF => exact (fun _ _ => trivial)); (case aO => exact ((Kd.R_nil _ _ _ _ (fun _ => True)))); (case aS => exact (below_size (by repeat (first | (with_reducible first | exact HB.out | apply below_alloc | apply pw_below_drewN | apply below_drew1) | exact HB.out)))); (case aL => have := LMc3.out; omega); intro v184 w6 ho hb hg hat; rw [← Ny183.out] at ho; have n0_ := Aside0.mk (hb); have n1_ := Aside0.mk (ho); clear HB; have HB := n0_; have HO185 := n1_; clear n0_ n1_; clear ho hb hg hat) | ((with_reducible refine gate_builtin (b := .append) (xs := #[.tmp 9, .tmp 10]) rfl ?_); at_builtin; refine Kd.R_append_rows k34 (w0 := w) w.heap.size rfl (.tmp 9) (.tmp 10) 22 34 (.agg #[(.int .i64 0), (.int .i64 0), (.int .i64 0), (.int .i64 0), (.int .i64 0), (.int .i64 0)]) 48 rfl Try.underlying22 info34 rfl (by decide) (by omega) v184 y183 l1 _ _ _ (fun _ => True) (fun _ => False) rfl rfl ?aO ?aR (fun _ _ h => h) (fun _ h => h.elim) ?aF ?aB ?aS ?aL ?_; (case aR => repeat (first | exact (Kd.C_below HR1.out HB.out) | (with_reducible refine Kd.C_alloc ?_ _) | (with_reducible refine Kd.C_drewN ?_ _) | (with_reducible refine Kd.C_drew ?_))); (case aB => exact (by repeat (first | (with_reducible first | exact HB.out | apply below_alloc | apply pw_below_drewN | apply below_drew1) | exact HB.out))); (case aF => exact (fun _ _ => trivial)); (case aO => exact (by (with_reducible repeat (first | apply Kd.R_alloc | apply Kd.R_drewN | apply Kd.R_drew)); exact HO185.out)); (case aS => exact (below_size (by repeat (first | (with_reducible first | exact HB.out | apply below_alloc | apply pw_below_drewN | apply below_drew1) | exact HB.out)))); (case aL => have := LMc4.out; omega); intro v187 w7 ho hb hg hat; rw [← Ny186.out] at ho; have n0_ := Aside0.mk (hb); have n1_ := Aside0.mk (ho); clear HB; clear HO185; have HB := n0_; have HO188 := n1_; clear n0_ n1_; clear ho hb hg hat; obtain ⟨Ao8, co8, eo8⟩ := Kd.R_slice HO188.out; subst eo8) | ((with_reducible refine gate_callee (f := 15) rfl ?_); refine goesL_ (some 13) rfl rfl Try.func15 (by kernel_rfl) rfl #[.slice Ao8 y186.length co8] rfl (by (try simp only [List.map_toArray, List.map_cons, List.map_nil]); first | done | rfl | (simp only [List.length_drop, List.length_take]; rfl)) ?_; (with_reducible refine (watchmanref07_Sort.calls k _ _ y186 t189 _ ?side1 ?side2 A5.out).mono ?_); (case side1 => repeat (first | exact (Kd.R_reads' HO188.out).2.2 | (with_reducible refine Kd.C_alloc ?_ _) | (with_reducible refine Kd.C_drewN ?_ _) | (with_reducible refine Kd.C_drew ?_))); (case side2 => exact (Kd.R_reads' HO188.out).2.1); rintro e w9 ⟨v190, rfl, ho0, hb⟩; refine ⟨_, rfl, ?_⟩; have n0_ := Aside0.mk (Kd.R_elder' (by (with_reducible repeat (first | apply Kd.R_alloc | apply Kd.R_drewN | apply Kd.R_drew)); exact HO188.out) (Kd.R_base ho0) hb); have n1_ := Aside0.mk (Kd.R_lower (Kd.R_new' ho0 (Kd.R_lt (by (with_reducible repeat (first | apply Kd.R_alloc | apply Kd.R_drewN | apply Kd.R_drew)); exact HO188.out))) (below_size (by repeat (first | (with_reducible first | exact HB.out | apply below_alloc | apply pw_below_drewN | apply below_drew1) | exact HB.out)))); have n2_ := Aside0.mk (below_step (by repeat (first | (with_reducible first | exact HB.out | apply below_alloc | apply pw_below_drewN | apply below_drew1) | exact HB.out)) hb); clear HO188; clear HB; have HO188 := n0_; have HO191 := n1_; have HB := n2_; clear n0_ n1_ n2_; (try clear hb); (try clear hb2); (try clear hk); (try clear hi); (try clear ho0)))
      go_ret
      exact ⟨_, by first | rfl | (simp [errW_none, errW_some] <;> rfl) | (simp [*, errW_none, errW_some] <;> rfl), by (with_reducible repeat (first | apply Kd.R_alloc | apply Kd.R_drewN | apply Kd.R_drew)); exact Kd.R_mono HO191.out (fun _ hk => trivial), by repeat (first | (with_reducible first | exact HB.out | apply below_alloc | apply pw_below_drewN | apply below_drew1) | exact HB.out)⟩
    · rw [if_neg c4] at H
      exact absurd H (by simp)
  · rw [if_neg c3] at H
    exact absurd H (by simp)
def rank_Compare.f (a0_0 : Int) (a0_1 : Int) (a0_2 : Int) (a0_3 : Int) (a0_4 : Int) (a0_5 : Int) (a1_0 : Int) (a1_1 : Int) (a1_2 : Int) (a1_3 : Int) (a1_4 : Int) (a1_5 : Int) : Option (Int) := some (cmpA (toA ⟨⟨a0_0, a0_1⟩, a0_2, a0_3, a0_4, a0_5⟩) (toA ⟨⟨a1_0, a1_1⟩, a1_2, a1_3, a1_4, a1_5⟩))
theorem rank_Compare.calls (a0_0 : Int) (a0_1 : Int) (a0_2 : Int) (a0_3 : Int) (a0_4 : Int) (a0_5 : Int) (a1_0 : Int) (a1_1 : Int) (a1_2 : Int) (a1_3 : Int) (a1_4 : Int) (a1_5 : Int) (r : Int) (w : World) (h : rank_Compare.f a0_0 a0_1 a0_2 a0_3 a0_4 a0_5 a1_0 a1_1 a1_2 a1_3 a1_4 a1_5 = some r) :
    Calls Try.prog 18 #[.agg #[.int .i64 a0_0, .int .i64 a0_1, .int .i64 a0_2, .int .i64 a0_3, .int .i64 a0_4, .int .i64 a0_5], .agg #[.int .i64 a1_0, .int .i64 a1_1, .int .i64 a1_2, .int .i64 a1_3, .int .i64 a1_4, .int .i64 a1_5]] w fun e w' => e = .returned (.int .i64 r) ∧ Below w.heap.size w w' := by
  obtain rfl := Option.some.inj h
  exact cmp_calls (toA ⟨⟨a0_0, a0_1⟩, a0_2, a0_3, a0_4, a0_5⟩) (toA ⟨⟨a1_0, a1_1⟩, a1_2, a1_3, a1_4, a1_5⟩) w
def watchmanlaw07_smudge.l0 : Nat → List (S34) → Int → Option ((List (S34)))
  | 0, _, _ => none
  | k + 1, x0, x2 => if x2 < (x0.length : Int) then (if 0 ≤ x2 then (watchmanlaw07_smudge.l0 k (x0.set (x2 : Int).toNat (⟨(⟨(rd_T34 x0 x2).f0.f0, (rd_T34 x0 x2).f0.f1⟩ : S24), (rd_T34 x0 x2).f1, 77, (rd_T34 x0 x2).f3, (rd_T34 x0 x2).f4⟩ : S34)) (wrap64 (x2 + 1))) else (none)) else (some x0)
def watchmanlaw07_smudge.f (k : Nat) (l0 : List (S34)) : Option ((List (S34))) := watchmanlaw07_smudge.l0 k l0 0
theorem watchmanlaw07_smudge.mono_l : ∀ k, (∀ y0 y1, LeO (watchmanlaw07_smudge.l0 k y0 y1) (watchmanlaw07_smudge.l0 (k + 1) y0 y1))
  | 0 => fun _ _ r h => by simp [watchmanlaw07_smudge.l0] at h
  | k + 1 => by
    have ih0 := watchmanlaw07_smudge.mono_l k
    · intro y0 y1
      unfold watchmanlaw07_smudge.l0
      repeat' first
      | (with_reducible exact ih0 _ _)
      | (with_reducible exact LeO.refl _)
      | (with_reducible exact LeO.none _)
      | (with_reducible refine LeO.ite ?_ ?_)
      | (with_reducible refine LeO.bind ?_ (fun _ => ?_))
      | exact ih0 _ _
      | exact LeO.none _
      | refine LeO.ite ?_ ?_
      | refine LeO.bind ?_ (fun _ => ?_)
theorem watchmanlaw07_smudge.mono : ∀ a0 k, LeO (watchmanlaw07_smudge.f k a0) (watchmanlaw07_smudge.f (k + 1) a0) := by
  intro a0 k
  have ih0 := watchmanlaw07_smudge.mono_l k
  unfold watchmanlaw07_smudge.f
  repeat' first
      | (with_reducible exact ih0 _ _)
      | (with_reducible exact LeO.refl _)
      | (with_reducible exact LeO.none _)
      | (with_reducible refine LeO.ite ?_ ?_)
      | (with_reducible refine LeO.bind ?_ (fun _ => ?_))
      | exact ih0 _ _
      | exact LeO.none _
      | refine LeO.ite ?_ ?_
      | refine LeO.bind ?_ (fun _ => ?_)
set_option maxHeartbeats 8000000 in
set_option maxRecDepth 100000 in
theorem watchmanlaw07_smudge.calls (k : Nat) (P0_ : Nat → Prop) (u9000_ : Value) (l0 : List (S34)) (r : List (S34)) (w0 w : World) (hB : Below w0.heap.size w0 w) (ho0 : Kd.R k34 34 w w0.heap.size P0_ u9000_ l0) (h : watchmanlaw07_smudge.f k l0 = some r) :
    Calls Try.prog 20 #[u9000_] w fun e w' => e = .returned (.tuple #[]) ∧ Kd.R k34 34 w' w0.heap.size (fun k_ => (P0_ k_ ∨ w.heap.size ≤ k_)) u9000_ r ∧ Below w0.heap.size w0 w' ∧ Kept w w' (fun k_ => P0_ k_) := by
  have HO0 := Aside0.mk (show Kd.R k34 34 w w0.heap.size (fun k_ => (P0_ k_ ∨ w.heap.size ≤ k_)) u9000_ l0 from Kd.R_mono ho0 (fun k_ hk => (.inl hk)))
  have HK := Aside0.mk (Kept.refl w (fun k_ => P0_ k_))
  have HW0 := Aside0.mk hB.size
  have HB := Aside0.mk hB
  clear hB
  have H : (watchmanlaw07_smudge.l0 k l0 0) = some r := h
  clear h
  have H' := Aside0.mk H
  clear H
  go_enter Try.func20, Try.ntmps20
  go_wp2
  go_loopg [2] k (fun kq v2 w' => ∃ (x0_1 : List (S34)) (x2_1 : Int), v2 = .int .i64 x2_1 ∧ Aside0 (watchmanlaw07_smudge.l0 kq x0_1 x2_1 = some r) ∧ Aside0 (kq ≤ k) ∧ Aside0 (Kd.R k34 34 w' w0.heap.size (fun k_ => (P0_ k_ ∨ w.heap.size ≤ k_)) u9000_ x0_1) ∧ Aside0 (Kept w w' (fun k_ => P0_ k_)) ∧ Aside0 (Below w0.heap.size w0 w'))
  case atStart => exact ⟨(l0), (0), (by first | rfl | (simp; done) | (simp [*]; done)), H', ⟨Nat.le_refl _⟩, ⟨by (with_reducible repeat (first | apply Kd.R_alloc | apply Kd.R_drewN | apply Kd.R_drew)); exact HO0.out⟩, ⟨by repeat (first | (with_reducible first | exact HK.out | apply Kept.alloc | apply Kept.drewN | apply Kept.drew) | exact HK.out)⟩, ⟨by repeat (first | (with_reducible first | exact HB.out | apply below_alloc | apply pw_below_drewN | apply below_drew1) | exact HB.out)⟩⟩
  case round =>
    clear H'
    obtain ⟨x0_1, x2_1, rfl, HA, HK1, HO_0, HK, HB⟩ := hrel
    cases gk with
    | zero => exact absurd HA.out (by simp [watchmanlaw07_smudge.l0])
    | succ k1 =>
      have H := HA.out
      clear HA
      simp only [watchmanlaw07_smudge.l0] at H
      by_cases c2 : x2_1 < (x0_1.length : Int)
      · rw [if_pos c2] at H
        have c2b0 : decide (x2_1 < (x0_1.length : Int)) = true := decide_eq_true c2
        clear c2
        by_cases c3 : 0 ≤ x2_1
        · rw [if_pos c3] at H
          have c3b0 : decide (0 ≤ x2_1) = true := decide_eq_true c3
          clear c3
          obtain ⟨y192, hy192⟩ : ∃ y_ : List (S34), y_ = (x0_1.set (x2_1 : Int).toNat (⟨(⟨(rd_T34 x0_1 x2_1).f0.f0, (rd_T34 x0_1 x2_1).f0.f1⟩ : S24), (rd_T34 x0_1 x2_1).f1, 77, (rd_T34 x0_1 x2_1).f3, (rd_T34 x0_1 x2_1).f4⟩ : S34)) := ⟨_, rfl⟩
          replace H : (watchmanlaw07_smudge.l0 k1 y192 (wrap64 (x2_1 + 1))) = some r := by first | (rw [hy192]; with_reducible exact H) | (have H2_ := (Option.bind_some _ _).symm.trans H; rw [hy192]; with_reducible exact H2_) | (have H2_ := (Option.bind_some _ _).symm.trans H; with_reducible exact H2_) | with_reducible exact H | (rw [hy192]; exact H) | exact H
          have Ny192 := Aside0.mk hy192
          clear hy192
          have H' := Aside0.mk H
          clear H
          obtain ⟨Ao5, co5, eo5⟩ := Kd.R_slice HO_0.out
          subst eo5
          have p4 : 0 ≤ (x2_1 : Int) := of_decide_eq_true (by first | (with_reducible assumption) | assumption)
          have q4 : (x2_1 : Int) < ((x0_1.length : Int) : Int) := of_decide_eq_true (by first | (with_reducible assumption) | assumption)
          obtain ⟨go4, co4, eo4, gb4, gl4, cl4, HG4⟩ := Kd.R_form HO_0.out (by omega)
          (first | cases eo4 | (injection eo4 with ea_ en_ ec_; (first | subst ea_ | (injection ea_ with ea_; subst ea_)); subst ec_; clear en_))
          have GB4 := Aside0.mk gb4
          have GG4 := Aside0.mk HG4
          clear gb4 gl4 HG4
          have HMgo4 := Aside0.mk (show (P0_ go4 ∨ w.heap.size ≤ go4) from (HO_0.out.1 _ rfl))
          obtain ⟨ce4, hcl4, hM4, hcc4, hfr4⟩ := Kd.R_elem HO_0.out z34 (x2_1 : Int) p4 q4
          obtain rfl := k34_openM hM4
          have hx4_0 : wr.cell? ⟨go4, (x2_1 : Int).toNat * 6, none⟩ = some (.int .i64 ((rd_T34 x0_1 x2_1).f0.f0)) := hcc4 0 _ rfl
          have hx4_1 : wr.cell? ⟨go4, (x2_1 : Int).toNat * 6 + 1, none⟩ = some (.int .i64 ((rd_T34 x0_1 x2_1).f0.f1)) := hcc4 1 _ rfl
          have hx4_2 : wr.cell? ⟨go4, (x2_1 : Int).toNat * 6 + 2, none⟩ = some (.int .i64 ((rd_T34 x0_1 x2_1).f1)) := hcc4 2 _ rfl
          have hx4_3 : wr.cell? ⟨go4, (x2_1 : Int).toNat * 6 + 3, none⟩ = some (.int .i64 ((rd_T34 x0_1 x2_1).f2)) := hcc4 3 _ rfl
          have hx4_4 : wr.cell? ⟨go4, (x2_1 : Int).toNat * 6 + 4, none⟩ = some (.int .i64 ((rd_T34 x0_1 x2_1).f3)) := hcc4 4 _ rfl
          have hx4_5 : wr.cell? ⟨go4, (x2_1 : Int).toNat * 6 + 5, none⟩ = some (.int .i64 ((rd_T34 x0_1 x2_1).f4)) := hcc4 5 _ rfl
          have hf4_0 : wr.frozen? ⟨go4, (x2_1 : Int).toNat * 6, none⟩ = false := hfr4 0
          have hf4_1 : wr.frozen? ⟨go4, (x2_1 : Int).toNat * 6 + 1, none⟩ = false := hfr4 1
          have hf4_2 : wr.frozen? ⟨go4, (x2_1 : Int).toNat * 6 + 2, none⟩ = false := hfr4 2
          have hf4_3 : wr.frozen? ⟨go4, (x2_1 : Int).toNat * 6 + 3, none⟩ = false := hfr4 3
          have hf4_4 : wr.frozen? ⟨go4, (x2_1 : Int).toNat * 6 + 4, none⟩ = false := hfr4 4
          have hf4_5 : wr.frozen? ⟨go4, (x2_1 : Int).toNat * 6 + 5, none⟩ = false := hfr4 5
          clear hcl4 hcc4 hfr4 hM4
          replace p4 := eq_true p4
          replace q4 := eq_true q4
          have HX6 := Aside0.mk (show Kd.R k34 34 wr w0.heap.size (fun k_ => (P0_ k_ ∨ w.heap.size ≤ k_)) (.slice (some ⟨go4, 0, none⟩) x0_1.length co5) x0_1 from (by (with_reducible repeat (first | apply Kd.R_alloc | apply Kd.R_drewN | apply Kd.R_drew)); exact HO_0.out))
          obtain ⟨ce6, hcl6, hM6, hcc6, hfr6⟩ := Kd.R_elem HX6.out z34 (x2_1 : Int) (of_decide_eq_true (by first | (with_reducible assumption) | assumption)) (by have h_ : (x2_1 : Int) < ((x0_1.length : Int) : Int) := of_decide_eq_true (by first | (with_reducible assumption) | assumption); first | exact h_ | (have e_ := (Kd.R_reads' HO_0.out).1; omega) | simpa using h_)
          obtain rfl := k34_openM hM6
          have HP6 := Kd.R_seg HX6.out (x2_1 : Int) (of_decide_eq_true (by first | (with_reducible assumption) | assumption)) (by have h_ : (x2_1 : Int) < ((x0_1.length : Int) : Int) := of_decide_eq_true (by first | (with_reducible assumption) | assumption); first | exact h_ | (have e_ := (Kd.R_reads' HO_0.out).1; omega) | simpa using h_) (seg := [.int .i64 77]) (j := 3) hcl6 hcc6 (show 4 ≤ 6 from by decide) (x' := (⟨(⟨(rd_T34 x0_1 x2_1).f0.f0, (rd_T34 x0_1 x2_1).f0.f1⟩ : S24), (rd_T34 x0_1 x2_1).f1, 77, (rd_T34 x0_1 x2_1).f3, (rd_T34 x0_1 x2_1).f4⟩ : S34)) (k34_mkM _ _ _ (⟨(⟨(rd_T34 x0_1 x2_1).f0.f0, (rd_T34 x0_1 x2_1).f0.f1⟩ : S24), (rd_T34 x0_1 x2_1).f1, 77, (rd_T34 x0_1 x2_1).f3, (rd_T34 x0_1 x2_1).f4⟩ : S34) ) (fun _ hk => hk)
          have hx6_3 := hcc6 3 _ rfl
          (try simp only [show (k34).sz = 6 from rfl, Nat.mul_one, Nat.add_zero] at hx6_3)
          have hf6_3 := hfr6 3
          (try simp only [show (k34).sz = 6 from rfl, Nat.mul_one, Nat.add_zero] at hf6_3)
          clear hcl6 hcc6 hfr6 hM6
          go_wp2_with (first | ((with_reducible refine gate_store (t := 3) (p := 12) rfl ?_); refine store_event (t := 3) (p := 12) (v := ?vo_w7) (w1 := (wr.setCell ⟨go4, (x2_1 : Int).toNat * 6 + 3, none⟩ (.int .i64 77))) ?hg ?ho ?hn ?hr ?_; (case ho => rfl); (case hg => rfl); (case hn => rfl); (case hr => first | (go_simp; done) | (go_simp; rfl)); intro w7 hw; have hg : wr.grownBy w7 (some go4) := (by rw [hw]; exact HP6.2); have hp_ : Kd.R k34 34 w7 w0.heap.size (fun k_ => (P0_ k_ ∨ w.heap.size ≤ k_)) (.slice (some ⟨go4, 0, none⟩) x0_1.length co5) y192 := (by rw [hw, Ny192.out]; exact HP6.1); clear HP6; have n0_ := Aside0.mk (hp_); have n1_ := Aside0.mk ((by rw [hw]; exact below_set (HB.out) GB4.out : Below w0.heap.size w0 w7)); have n2_ := Aside0.mk (Kept.of_grown (S := (fun k_ => P0_ k_)) hg (by repeat (first | (with_reducible first | exact HK.out | apply Kept.alloc | apply Kept.drewN | apply Kept.drew) | exact HK.out)) (fun k_ e_ => (HO_0.out.1 k_ e_))); clear HO_0; clear HB; clear HK; have HO_0 := n0_; have HB := n1_; have HK := n2_; clear n0_ n1_ n2_; clear hg hw hp_))
          go_roundg k1
          case measure => have := HK1.out; omega
          case rel => exact ⟨(y192), (wrap64 (x2_1 + 1)), (by first | rfl | (simp; done) | (simp [*]; done)), H', ⟨by have := HK1.out; omega⟩, ⟨by (with_reducible repeat (first | apply Kd.R_alloc | apply Kd.R_drewN | apply Kd.R_drew)); exact HO_0.out⟩, ⟨by repeat (first | (with_reducible first | exact HK.out | apply Kept.alloc | apply Kept.drewN | apply Kept.drew) | exact HK.out)⟩, ⟨by repeat (first | (with_reducible first | exact HB.out | apply below_alloc | apply pw_below_drewN | apply below_drew1) | exact HB.out)⟩⟩
        · rw [if_neg c3] at H
          exact absurd H (by simp)
      · rw [if_neg c2] at H
        have c2b0 : decide (x2_1 < (x0_1.length : Int)) = false := decide_eq_false c2
        clear c2
        obtain rfl := Option.some.inj H
        obtain ⟨Ao8, co8, eo8⟩ := Kd.R_slice HO_0.out
        subst eo8
        go_wp2
        first | go_end0 | ((try simp only [Exit.inBlock, Exit.then]); refine bodyPost_ret (results_none rfl _ _ _) rfl ?_)
        exact ⟨by first | rfl | (simp [errW_none, errW_some] <;> rfl) | (simp [*, errW_none, errW_some] <;> rfl), by (with_reducible repeat (first | apply Kd.R_alloc | apply Kd.R_drewN | apply Kd.R_drew)); exact HO_0.out, by repeat (first | (with_reducible first | exact HB.out | apply below_alloc | apply pw_below_drewN | apply below_drew1) | exact HB.out), by repeat (first | (with_reducible first | exact HK.out | apply Kept.alloc | apply Kept.drewN | apply Kept.drew) | exact HK.out)⟩
def watchmanlaw07_one.f (a0 : Int) (a1 : Int) (a2 : Int) : Option (Int × Int × Int × Int × Int × Int) := some (0, 0, a0, a1, a2, 0)
set_option maxHeartbeats 8000000 in
set_option maxRecDepth 100000 in
theorem watchmanlaw07_one.calls (a0 : Int) (a1 : Int) (a2 : Int) (r1 : Int) (r2 : Int) (r3 : Int) (r4 : Int) (r5 : Int) (r6 : Int) (w : World) (h : watchmanlaw07_one.f a0 a1 a2 = some (r1, r2, r3, r4, r5, r6)) :
    Calls Try.prog 29 #[.int .i64 a0, .int .i64 a1, .int .i64 a2] w fun e w' => e = .returned (.agg #[.int .i64 r1, .int .i64 r2, .int .i64 r3, .int .i64 r4, .int .i64 r5, .int .i64 r6]) ∧ Below w.heap.size w w' := by
  have hu34 := Try.underlying34
  have HB := Aside0.mk (Below.refl w.heap.size w)
  have H : (some (0, 0, a0, a1, a2, 0)) = some (r1, r2, r3, r4, r5, r6) := h
  clear h
  simp only [Option.some.injEq, Prod.mk.injEq] at H
  obtain ⟨rfl, rfl, rfl, rfl, rfl, rfl⟩ := H
  go_enter Try.func29, Try.ntmps29
  go_wp2_with (first | ((with_reducible refine gate_dst (N := 6) rfl ?_); refine box_event ?hg (N := 6) ?hd (cs := #[.int .i64 0, .int .i64 0, .int .i64 0, .int .i64 0, .int .i64 0, .int .i64 0]) (t := 34) ?hr ?_; (case hd => rfl); (case hg => rfl); (case hr => first | (go_simp; done) | (go_simp; rfl)); intro gb193 hg w4 hbox hb; have n0_ := Aside0.mk (below_step (by repeat (first | (with_reducible first | exact HB.out | apply below_alloc | apply pw_below_drewN | apply below_drew1) | exact HB.out)) hb); have n1_ := Aside0.mk (hbox); have n2_ := Aside0.mk ((by rw [hg]; exact (below_size (by repeat (first | (with_reducible first | exact HB.out | apply below_alloc | apply pw_below_drewN | apply below_drew1) | exact HB.out))) : w.heap.size ≤ gb193)); have n3_ := Aside0.mk ((by rw [hg]; exact (below_size (by repeat (first | (with_reducible first | exact HB.out | apply below_alloc | apply pw_below_drewN | apply below_drew1) | exact HB.out))) : w.heap.size ≤ gb193)); clear HB; have HB := n0_; have BK193 := n1_; have GW193 := n2_; have GE193 := n3_; clear n0_ n1_ n2_ n3_; clear hb hbox hg; have hcz5_0 : w4.cell? ⟨gb193, 0, none⟩ = some (.int .i64 0) := (blk_cell BK193.out 0).trans rfl; have hcz5_1 : w4.cell? ⟨gb193, 1, none⟩ = some (.int .i64 0) := (blk_cell BK193.out 1).trans rfl; have hcz5_2 : w4.cell? ⟨gb193, 2, none⟩ = some (.int .i64 0) := (blk_cell BK193.out 2).trans rfl; have hcz5_3 : w4.cell? ⟨gb193, 3, none⟩ = some (.int .i64 0) := (blk_cell BK193.out 3).trans rfl; have hcz5_4 : w4.cell? ⟨gb193, 4, none⟩ = some (.int .i64 0) := (blk_cell BK193.out 4).trans rfl; have hcz5_5 : w4.cell? ⟨gb193, 5, none⟩ = some (.int .i64 0) := (blk_cell BK193.out 5).trans rfl; have hfz5_0 := blk_frozen BK193.out 0; have hfz5_1 := blk_frozen BK193.out 1; have hfz5_2 := blk_frozen BK193.out 2; have hfz5_3 := blk_frozen BK193.out 3; have hfz5_4 := blk_frozen BK193.out 4; have hfz5_5 := blk_frozen BK193.out 5))
  refine bodyPost_ret (results_cell_row rfl _ _ gb193 34 #[.int .i64 0, .int .i64 0, .int .i64 a0, .int .i64 a1, .int .i64 a2, .int .i64 0] (0, 0) _ rfl (by (with_reducible repeat (first | refine blk_drewN ?_ _ | refine blk_drew ?_ | refine blk_alloc ?_ _)); refine blk_put (cs := #[.int .i64 0, .int .i64 0, .int .i64 a0, .int .i64 a1, .int .i64 a2, .int .i64 0]) ?_ 5 _ rfl; (with_reducible repeat (first | refine blk_drewN ?_ _ | refine blk_drew ?_ | refine blk_alloc ?_ _)); refine blk_put (cs := #[.int .i64 0, .int .i64 0, .int .i64 a0, .int .i64 a1, .int .i64 0, .int .i64 0]) ?_ 4 _ rfl; (with_reducible repeat (first | refine blk_drewN ?_ _ | refine blk_drew ?_ | refine blk_alloc ?_ _)); refine blk_put (cs := #[.int .i64 0, .int .i64 0, .int .i64 a0, .int .i64 0, .int .i64 0, .int .i64 0]) ?_ 3 _ rfl; (with_reducible repeat (first | refine blk_drewN ?_ _ | refine blk_drew ?_ | refine blk_alloc ?_ _)); refine blk_put (cs := #[.int .i64 0, .int .i64 0, .int .i64 0, .int .i64 0, .int .i64 0, .int .i64 0]) ?_ 2 _ rfl; (with_reducible repeat (first | refine blk_drewN ?_ _ | refine blk_drew ?_ | refine blk_alloc ?_ _)); refine blk_put (cs := #[.int .i64 0, .int .i64 0, .int .i64 0, .int .i64 0, .int .i64 0, .int .i64 0]) ?_ 1 _ rfl; (with_reducible repeat (first | refine blk_drewN ?_ _ | refine blk_drew ?_ | refine blk_alloc ?_ _)); refine blk_put (cs := #[.int .i64 0, .int .i64 0, .int .i64 0, .int .i64 0, .int .i64 0, .int .i64 0]) ?_ 0 _ rfl; (with_reducible repeat (first | refine blk_drewN ?_ _ | refine blk_drew ?_ | refine blk_alloc ?_ _)); exact BK193.out) Try.underlying34 rfl (by kernel_rfl)) rfl ?_
  exact ⟨by first | rfl | (simp [errW_none, errW_some] <;> rfl) | (simp [*, errW_none, errW_some] <;> rfl), by repeat (first | (with_reducible first | exact HB.out | apply below_alloc | apply pw_below_drewN | apply below_drew1 | refine below_set ?_ GE193.out) | exact HB.out)⟩
end Go.Proofs.Ytjjagjehaoidbaa.P

set_option linter.unusedVariables false
set_option linter.unusedSimpArgs false
namespace Go.Proofs.Ytjjagjehaoidbaa.P
open Go.RowKit Go.Proofs.YtjjagjehaoidbaaW.PrintWords Go.Proofs.YtjjagjehaoidbaaW.PrintLast Go.Proofs.YtjjagjehaoidbaaW.PrintMore
theorem Ev.succ {α : Type} {g : Nat → Option α} {r : α} (h : Ev (fun k => g (k + 1)) r) : Ev g r := Ev.step (fun _ => rfl) h
theorem map_toA (L : List Alarm) : (L.map ofA).map toA = L := by rw [List.map_map]; exact List.map_id' L
theorem map_ofA (l : List S34) : (l.map toA).map ofA = l := by rw [List.map_map]; exact List.map_id' l
theorem rdL (L : List Alarm) (i : Int) : rd_T34 (L.map ofA) i = ofA (L.getD i.toNat default) := by
  unfold rd_T34
  by_cases h : i.toNat < L.length
  · simp [h]
  · simp [Nat.le_of_not_lt h]; rfl
theorem w64 {x : Int} (h : -9223372036854775808 ≤ x ∧ x ≤ 9223372036854775807) : wrap64 x = x := by unfold wrap64; omega
theorem take_ofA (L : List Alarm) (n : Nat) : (L.map ofA).take n = (L.take n).map ofA := List.map_take.symm
theorem drop_ofA (L : List Alarm) (n : Nat) : (L.map ofA).drop n = (L.drop n).map ofA := List.map_drop.symm
theorem press_f (p : Int) : watchmanref07_press.f p = some (rPress p) := by
  unfold watchmanref07_press.f rPress
  simp only [Bool.cond_eq_ite, beq_iff_eq]
  repeat' split
  all_goals simp_all
theorem keys_f (a : Alarm) : watchmanref07_keys.f a.spot.bed a.spot.channel a.phase a.prio a.since a.until_ = some (keysA a) := by
  unfold watchmanref07_keys.f
  rw [press_f, Option.bind_some]
  unfold keysA
  rw [press_eq]
theorem cmp_l0 (xs ys : List Int) (hl : xs.length = ys.length) (hn : xs.length ≤ 1000) : ∀ (d i : Nat), xs.length - i = d → Ev (fun k => watchmanref07_Compare.l0 k xs ys i) (cmpL (xs.drop i) (ys.drop i))
  | 0, i, hd => by
    refine Ev.succ ?_
    simp only [watchmanref07_Compare.l0, if_neg (show ¬ ((i : Int) < (xs.length : Int)) by omega)]
    rw [List.drop_eq_nil_of_le (by omega), List.drop_eq_nil_of_le (by omega)]
    exact Ev.now 0
  | d + 1, i, hd => by
    have hx : i < xs.length := by omega
    have hy : i < ys.length := by omega
    have e1 : rd xs i = xs[i] := by simp [rd, hx]
    have e2 : rd ys i = ys[i] := by simp [rd, hy]
    refine Ev.succ ?_
    simp only [watchmanref07_Compare.l0, if_pos (show (i : Int) < (xs.length : Int) by omega), if_pos (show (0 : Int) ≤ (i : Int) by omega), if_pos (show (i : Int) < (ys.length : Int) by omega), e1, e2]
    rw [List.drop_eq_getElem_cons hx, List.drop_eq_getElem_cons hy]
    simp only [cmpL]
    by_cases h1 : xs[i] < ys[i]
    · simp only [if_pos h1]; exact Ev.now _
    · by_cases h2 : xs[i] > ys[i]
      · simp only [if_neg h1, if_pos h2, if_pos (show ys[i] < xs[i] from h2)]; exact Ev.now _
      · simp only [if_neg h1, if_neg h2, if_neg (show ¬ ys[i] < xs[i] from h2), w64 (show -9223372036854775808 ≤ (i : Int) + 1 ∧ (i : Int) + 1 ≤ 9223372036854775807 by omega)]
        exact cmp_l0 xs ys hl hn d (i + 1) (by omega)
theorem cmp_ev (a b : Alarm) : Ev (fun k => watchmanref07_Compare.f k a.spot.bed a.spot.channel a.phase a.prio a.since a.until_ b.spot.bed b.spot.channel b.phase b.prio b.since b.until_) (cmpA a b) := by
  unfold watchmanref07_Compare.f
  simp only [keys_f, Option.bind_some]
  rw [cmpA_keys]
  exact cmp_l0 (keysA a) (keysA b) rfl (by simp [keysA]) _ 0 rfl
theorem sort_f (L : List Alarm) (h : L.length ≤ 1000000) : rank_Sort.f (L.map ofA) = some ((rankA L).map ofA) := by
  unfold rank_Sort.f
  rw [if_pos (by simpa using h), map_toA]
def insPos (x : Alarm) : List Alarm → Nat
  | [] => 0
  | y :: l => if cmpA y x ≤ 0 then insPos x l + 1 else 0
theorem insPos_le (x : Alarm) : ∀ l, insPos x l ≤ l.length
  | [] => Nat.le_refl _
  | y :: l => by
    simp only [insPos]
    split
    · have := insPos_le x l; simp; omega
    · exact Nat.zero_le _
theorem insA_eq (x : Alarm) : ∀ l, insA x l = l.take (insPos x l) ++ x :: l.drop (insPos x l)
  | [] => rfl
  | y :: l => by
    simp only [insA, insPos]
    split
    · rw [insA_eq x l]; rfl
    · rfl
theorem insPos_drop (x : Alarm) : ∀ (l : List Alarm) (k : Nat), k ≤ insPos x l → insPos x l = k + insPos x (l.drop k)
  | l, 0, _ => by simp
  | [], k + 1, h => by simp [insPos] at h
  | y :: l, k + 1, h => by
    simp only [insPos] at h ⊢
    split
    · rename_i q
      rw [if_pos q] at h
      have := insPos_drop x l k (by omega)
      simp only [List.drop_succ_cons]
      omega
    · rename_i q
      rw [if_neg q] at h
      omega
theorem insA_length (x : Alarm) (l : List Alarm) : (insA x l).length = l.length + 1 := by
  have := insPos_le x l
  rw [insA_eq]; simp; omega
theorem sort_l1 (L out : List Alarm) (i : Nat) (hi : i < L.length) (hL : L.length ≤ 1000000) (ho : out.length ≤ 1000000) (r : List S34)
    (hr : Ev (fun k => watchmanref07_Sort.l0 k (L.map ofA) ((insA (L.getD i default) out).map ofA) ((i + 1 : Nat) : Int)) r) : ∀ (d j : Nat), out.length - j = d → j ≤ insPos (L.getD i default) out →
    Ev (fun k => watchmanref07_Sort.l1 k (L.map ofA) (out.map ofA) i j) r
  | d, j, hd, hj => by
    have hp := insPos_le (L.getD i default) out
    have hdr := insPos_drop (L.getD i default) out j hj
    have lo : (out.map ofA).length = out.length := List.length_map _
    have lL : (L.map ofA).length = L.length := List.length_map _
    have i0 : (0 : Int) ≤ (i : Int) := by omega
    have j0 : (0 : Int) ≤ (j : Int) := by omega
    have iL : (i : Int) < ((L.map ofA).length : Int) := by omega
    have tail : insPos (L.getD i default) out = j → ∀ {a b : List S34}, a = (out.map ofA).take j → b = (out.map ofA).drop j → a ++ [ofA (L.getD i default)] ++ b = (insA (L.getD i default) out).map ofA := by
      rintro e a b rfl rfl
      rw [insA_eq, e]; simp
    have w1 : wrap64 ((i : Int) + 1) = ((i + 1 : Nat) : Int) := w64 (by omega)
    refine Ev.succ ?_
    by_cases hjl : j < out.length
    · have e : out.getD (j : Int).toNat default = out[j] := by simp [hjl]
      rw [List.drop_eq_getElem_cons hjl] at hdr
      simp only [insPos] at hdr
      simp only [watchmanref07_Sort.l1, if_pos (show (j : Int) < ((out.map ofA).length : Int) by omega), if_pos j0, if_pos i0, if_pos iL, rdL]
      have hc := cmp_ev (out.getD (j : Int).toNat default) (L.getD (i : Int).toNat default)
      refine Ev.bind hc ?_
      rw [e, Int.toNat_natCast]
      by_cases q : cmpA out[j] (L.getD i default) ≤ 0
      · rw [if_pos q] at hdr
        simp only [if_pos q, w64 (show -9223372036854775808 ≤ (j : Int) + 1 ∧ (j : Int) + 1 ≤ 9223372036854775807 by omega)]
        cases d with
        | zero => omega
        | succ d => exact sort_l1 L out i hi hL ho r hr d (j + 1) (by omega) (by omega)
      · rw [if_neg q] at hdr
        simp only [if_neg q, if_pos (show (j : Int) ≤ ((out.map ofA).length : Int) by omega), Option.bind_some, List.nil_append, Int.toNat_natCast,
          if_pos (show ([] : List S34).length + ((out.map ofA).take j).length < 2932031007402 by simp; omega), if_pos (show ((out.map ofA).take j).length < 2932031007402 by simp; omega), w1]
        have e2 := tail (by omega) (a := (out.map ofA).take j) (b := (out.map ofA).drop j) rfl rfl
        have hlen : ((out.map ofA).take j ++ [ofA (L.getD i default)]).length + ((out.map ofA).drop j).length < 2932031007402 := by simp; omega
        simp only [if_pos hlen]
        rw [e2]
        exact hr
    · have he : insPos (L.getD i default) out = j := by omega
      simp only [watchmanref07_Sort.l1, if_neg (show ¬ (j : Int) < ((out.map ofA).length : Int) by omega), if_pos j0, if_pos i0, if_pos iL, rdL, if_pos (show (j : Int) ≤ ((out.map ofA).length : Int) by omega), Option.bind_some, List.nil_append, Int.toNat_natCast,
          if_pos (show ([] : List S34).length + ((out.map ofA).take j).length < 2932031007402 by simp; omega), if_pos (show ((out.map ofA).take j).length < 2932031007402 by simp; omega), w1]
      have e2 := tail he (a := (out.map ofA).take j) (b := (out.map ofA).drop j) rfl rfl
      have hlen : ((out.map ofA).take j ++ [ofA (L.getD i default)]).length + ((out.map ofA).drop j).length < 2932031007402 := by simp; omega
      simp only [if_pos hlen]
      rw [e2]
      exact hr
theorem sort_l0 (L : List Alarm) (hL : L.length ≤ 1000000) : ∀ (d i : Nat) (out : List Alarm), L.length - i = d → i ≤ L.length → out.length = i → Ev (fun k => watchmanref07_Sort.l0 k (L.map ofA) (out.map ofA) i) ((sortA' out (L.drop i)).map ofA)
  | 0, i, out, hd, hi, ho => by
    have lL : (L.map ofA).length = L.length := List.length_map _
    refine Ev.succ ?_
    simp only [watchmanref07_Sort.l0, if_neg (show ¬ (i : Int) < ((L.map ofA).length : Int) by omega)]
    rw [List.drop_eq_nil_of_le (by omega)]
    exact Ev.now _
  | d + 1, i, out, hd, hi, ho => by
    have lL : (L.map ofA).length = L.length := List.length_map _
    have hlt : i < L.length := by omega
    refine Ev.succ ?_
    simp only [watchmanref07_Sort.l0, if_pos (show (i : Int) < ((L.map ofA).length : Int) by omega)]
    have hx : L.getD i default = L[i] := by simp [hlt]
    have := sort_l0 L hL d (i + 1) (insA (L.getD i default) out) (by omega) (by omega) (by rw [insA_length]; omega)
    have e : sortA' (insA (L.getD i default) out) (L.drop (i + 1)) = sortA' out (L.drop i) := by
      rw [List.drop_eq_getElem_cons hlt, hx]; rfl
    rw [e] at this
    exact sort_l1 L out i hlt hL (by omega) _ this _ 0 rfl (Nat.zero_le _)
theorem sort_ev (L : List Alarm) (hL : L.length ≤ 1000000) : Ev (fun k => watchmanref07_Sort.f k (L.map ofA)) ((rankA L).map ofA) := sort_l0 L hL _ 0 [] rfl (Nat.zero_le _) rfl
theorem ofA_ne (x y : Alarm) : ((!(x.spot.bed == y.spot.bed) || !(x.spot.channel == y.spot.channel)) || (!(x.phase == y.phase) || (!(x.prio == y.prio) || (!(x.since == y.since) || !(x.until_ == y.until_))))) = true ↔ x ≠ y := by
  rcases x with ⟨⟨a1, a2⟩, a3, a4, a5, a6⟩
  rcases y with ⟨⟨b1, b2⟩, b3, b4, b5, b6⟩
  simp only [Bool.or_eq_true, Bool.not_eq_true', beq_eq_false_iff_ne, ne_eq, Alarm.mk.injEq, Spot.mk.injEq]
  omega
theorem same_l0 (A B : List Alarm) (hl : A.length = B.length) (hn : A.length ≤ 1000000) : ∀ (d i : Nat), A.length - i = d → Ev (fun k => watchmanref07_Same.l0 k (A.map ofA) (B.map ofA) i) (decide (A.drop i = B.drop i))
  | 0, i, hd => by
    have lA : (A.map ofA).length = A.length := List.length_map _
    refine Ev.succ ?_
    simp only [watchmanref07_Same.l0, if_neg (show ¬ (i : Int) < ((A.map ofA).length : Int) by omega)]
    rw [List.drop_eq_nil_of_le (by omega), List.drop_eq_nil_of_le (by omega), decide_eq_true rfl]
    exact Ev.now _
  | d + 1, i, hd => by
    have lA : (A.map ofA).length = A.length := List.length_map _
    have lB : (B.map ofA).length = B.length := List.length_map _
    have ha : i < A.length := by omega
    have hb : i < B.length := by omega
    have ea : A.getD (i : Int).toNat default = A[i] := by simp [ha]
    have eb : B.getD (i : Int).toNat default = B[i] := by simp [hb]
    refine Ev.succ ?_
    simp only [watchmanref07_Same.l0, if_pos (show (i : Int) < ((A.map ofA).length : Int) by omega), if_pos (show (0 : Int) ≤ (i : Int) by omega), if_pos (show (i : Int) < ((B.map ofA).length : Int) by omega), rdL, ea, eb, ofA]
    rw [List.drop_eq_getElem_cons ha, List.drop_eq_getElem_cons hb]
    have h := ofA_ne A[i] B[i]
    by_cases q : A[i] = B[i]
    · simp only [if_neg (mt h.1 (not_not_intro q)), w64 (show -9223372036854775808 ≤ (i : Int) + 1 ∧ (i : Int) + 1 ≤ 9223372036854775807 by omega)]
      have e : decide (A[i] :: A.drop (i + 1) = B[i] :: B.drop (i + 1)) = decide (A.drop (i + 1) = B.drop (i + 1)) := decide_eq_decide.2 ⟨fun h => (List.cons.inj h).2, fun h => by rw [q, h]⟩
      rw [e]
      exact same_l0 A B hl hn d (i + 1) (by omega)
    · simp only [if_pos (h.2 q)]
      rw [decide_eq_false (fun e => q (List.cons.inj e).1)]
      exact Ev.now _
theorem same_ev (A B : List Alarm) (hn : A.length ≤ 1000000) : Ev (fun k => watchmanref07_Same.f k (A.map ofA) (B.map ofA)) (decide (A = B)) := by
  have lA : (A.map ofA).length = A.length := List.length_map _
  have lB : (B.map ofA).length = B.length := List.length_map _
  unfold watchmanref07_Same.f
  by_cases h : A.length = B.length
  · simp only [if_pos (show ((A.map ofA).length : Int) = ((B.map ofA).length : Int) by omega)]
    exact same_l0 A B h hn _ 0 rfl
  · simp only [if_neg (show ¬ ((A.map ofA).length : Int) = ((B.map ofA).length : Int) by omega)]
    rw [decide_eq_false (fun e => h (by rw [e]))]
    exact Ev.now _
theorem same_refl (A : List Alarm) (hn : A.length ≤ 1000000) : Ev (fun k => watchmanref07_Same.f k (A.map ofA) (A.map ofA)) true := by
  have := same_ev A A hn
  rwa [decide_eq_true rfl] at this
theorem place_l0 (L : List Alarm) (s : Spot) (hn : L.length ≤ 1000000) : ∀ (d i : Nat), L.length - i = d → i ≤ idxS s L →
    Ev (fun k => watchmanref07_Place.l0 k (L.map ofA) i s.bed s.channel) (if idxI s L < 0 then 0 else idxI s L, decide (idxI s L ≥ 0))
  | d, i, hd, hi => by
    have lL : (L.map ofA).length = L.length := List.length_map _
    have hle := idxS_le s L
    have hdr := idxS_drop s L i hi
    refine Ev.succ ?_
    by_cases hlt : i < L.length
    · have e : L.getD (i : Int).toNat default = L[i] := by simp [hlt]
      rw [List.drop_eq_getElem_cons hlt] at hdr
      simp only [idxS] at hdr
      simp only [watchmanref07_Place.l0, if_pos (show (i : Int) < ((L.map ofA).length : Int) by omega), if_pos (show (0 : Int) ≤ (i : Int) by omega), rdL, e]
      cases hx : eqSB L[i] s with
      | true =>
        rw [hx] at hdr
        have he : idxS s L = i := by simpa using hdr
        have e2 : idxI s L = (i : Int) := by unfold idxI; rw [he, decide_eq_true hlt]; rfl
        have hx' : ((L[i].spot.bed == s.bed) && (L[i].spot.channel == s.channel)) = true := hx
        simp only [ofA, hx', if_true]
        rw [e2, if_neg (by omega), decide_eq_true (by omega)]
        exact Ev.now _
      | false =>
        rw [hx] at hdr
        simp only [cond_false] at hdr
        have hx' : ((L[i].spot.bed == s.bed) && (L[i].spot.channel == s.channel)) = false := hx
        simp only [ofA, hx', Bool.false_eq_true, if_false, w64 (show -9223372036854775808 ≤ (i : Int) + 1 ∧ (i : Int) + 1 ≤ 9223372036854775807 by omega)]
        cases d with
        | zero => omega
        | succ d => exact place_l0 L s hn d (i + 1) (by omega) (by omega)
    · have he : ¬ idxS s L < L.length := by omega
      have e2 : idxI s L = -1 := by unfold idxI; rw [decide_eq_false he]; rfl
      simp only [watchmanref07_Place.l0, if_neg (show ¬ (i : Int) < ((L.map ofA).length : Int) by omega)]
      rw [e2]
      exact Ev.now _
theorem place_ev (L : List Alarm) (s : Spot) (hn : L.length ≤ 1000000) : Ev (fun k => watchmanref07_Place.f k (L.map ofA) s.bed s.channel) (placeN s L) := by
  unfold watchmanref07_Place.f
  refine Ev.bind (sort_ev L hn) ?_
  exact place_l0 (rankA L) s (by rw [rankA_length]; exact hn) _ 0 rfl (Nat.zero_le _)
theorem place_f (L : List Alarm) (s : Spot) (h : L.length ≤ 1000000) : rank_Place.f (L.map ofA) s.bed s.channel = some (placeN s L) := by
  unfold rank_Place.f
  rw [if_pos (by simpa using h), map_toA]
theorem own_f (L : List Alarm) (h : L.length ≤ 1000000) : watchmanref07_Own.f (L.map ofA) = some (L.map ofA) := by
  unfold watchmanref07_Own.f
  rw [if_pos (by simp; omega)]; rfl
theorem top_f (L : List Alarm) (n : Int) (h : L.length ≤ 1000000) : rank_Top.f n (L.map ofA) = some (((rankA L).take n.toNat).map ofA) := by
  unfold rank_Top.f
  rw [sort_f L h, Option.bind_some, List.length_map, rankA_length]
  have h1 : 0 ≤ mn (mx n 0) (L.length : Int) ∧ mn (mx n 0) (L.length : Int) ≤ L.length ∧ (mn (mx n 0) (L.length : Int)).toNat = min n.toNat L.length := by unfold mn mx; repeat' split; all_goals omega
  rw [if_pos h1.1, if_pos h1.2.1, h1.2.2, take_ofA]
  congr 2
  rw [← rankA_length L, List.take_eq_take_iff]; omega
theorem top_ev (L : List Alarm) (n : Int) (h : L.length ≤ 1000000) : Ev (fun k => watchmanref07_Top.f k n (L.map ofA)) (((rankA L).take n.toNat).map ofA) := by
  unfold watchmanref07_Top.f
  by_cases hn : n < 1
  · simp only [if_pos hn]
    rw [show n.toNat = 0 by omega]
    exact Ev.now _
  · simp only [if_neg hn]
    refine Ev.bind (sort_ev L h) ?_
    have h1 : 0 ≤ mn n (L.length : Int) ∧ mn n (L.length : Int) ≤ L.length ∧ (mn n (L.length : Int)).toNat = min n.toNat L.length := by unfold mn; repeat' split; all_goals omega
    rw [List.length_map, rankA_length]
    have e : (rankA L).take (min n.toNat L.length) = (rankA L).take n.toNat := by rw [← rankA_length L, List.take_eq_take_iff]; omega
    simp only [if_pos h1.1, if_pos h1.2.1, h1.2.2, take_ofA, e, own_f _ (show ((rankA L).take n.toNat).length ≤ 1000000 by rw [List.length_take, rankA_length]; omega), Option.bind_some]
    exact Ev.now _
theorem merge_f (A B : List Alarm) (h : A.length + B.length ≤ 1000000) : rank_Merge.f (A.map ofA) (B.map ofA) = some ((rankA (A ++ B)).map ofA) := by
  unfold rank_Merge.f
  rw [if_pos (by simpa using h), map_toA, map_toA]
theorem merge_ev (A B : List Alarm) (h : A.length + B.length ≤ 1000000) : Ev (fun k => watchmanref07_Merge.f k (A.map ofA) (B.map ofA)) ((rankA (A ++ B)).map ofA) := by
  unfold watchmanref07_Merge.f
  simp only [List.nil_append, if_pos (show ([] : List S34).length + (A.map ofA).length < 2932031007402 by simp; omega), Option.bind_some, if_pos (show (A.map ofA).length + (B.map ofA).length < 2932031007402 by simp; omega), ← List.map_append]
  refine Ev.bind (sort_ev (A ++ B) (by simpa using h)) ?_
  exact Ev.now _
end Go.Proofs.Ytjjagjehaoidbaa.P

