/- The statement MuteTotal is proved: the call returns true for every input. No conditions. -/
import Derived.Test.YtaooefnmdlajcaaA4
import Derived.WalkKit
import Derived.ProofKit
import Derived.OpenShut
import Derived.Carry
import Derived.SizedLaws
import Derived.Deep.Slices
import Derived.ShutString
import Derived.ChangeOld
import Derived.Below
import Derived.Test.YtaooefnmdlajcaaRows
set_option linter.unusedVariables false
set_option linter.unusedSimpArgs false
set_option linter.unusedSectionVars false
namespace Go.Proofs.Ytaooefnmdlajcaa.P
open Go.RowKit Go.Proofs.YtaooefnmdlajcaaW.PrintWords Go.Proofs.YtaooefnmdlajcaaW.PrintLast Go.Proofs.YtaooefnmdlajcaaW.PrintMore
attribute [local go_sem] max2_int min2_int max_two min_two max_three min_three max_four min_four
set_option linter.unusedVariables false
set_option linter.unusedSimpArgs false
def mute_Total.l0 : Nat → Int → Int → List (S32) → Int → Int → Option (Int)
  | 0, _, _, _, _, _ => none
  | k + 1, x1, x5, x11, x12, x13 => if x13 < x12 then (if 0 ≤ x13 then (if x13 < (x11.length : Int) then (if ((rd_T32 x11 x13).f0) = x1 then (mute_Total.l0 k x1 (wrap64 (x5 + (wrap64 (((rd_T32 x11 x13).f2) - ((rd_T32 x11 x13).f1))))) x11 x12 (wrap64 (x13 + 1))) else (mute_Total.l0 k x1 x5 x11 x12 (wrap64 (x13 + 1)))) else (none)) else (none)) else (some x5)
def mute_Total.f (k : Nat) (l0 : List (S32)) (a1 : Int) : Option (Int) := (mute_Is.f k l0).bind fun t293 => (if t293 = true then (mute_Total.l0 k a1 0 l0 (l0.length : Int) 0) else (some 0))
theorem mute_Total.mono_l : ∀ k, (∀ y0 y1 y2 y3 y4, LeO (mute_Total.l0 k y0 y1 y2 y3 y4) (mute_Total.l0 (k + 1) y0 y1 y2 y3 y4))
  | 0 => fun _ _ _ _ _ r h => by simp [mute_Total.l0] at h
  | k + 1 => by
    have ih0 := mute_Total.mono_l k
    · intro y0 y1 y2 y3 y4
      unfold mute_Total.l0
      repeat' first
      | (with_reducible exact ih0 _ _ _ _ _)
      | (with_reducible exact mute_Is.mono _ _)
      | (with_reducible exact LeO.refl _)
      | (with_reducible exact LeO.none _)
      | (with_reducible refine LeO.ite ?_ ?_)
      | (with_reducible refine LeO.bind ?_ (fun _ => ?_))
      | exact ih0 _ _ _ _ _
      | exact mute_Is.mono _ _
      | exact LeO.none _
      | refine LeO.ite ?_ ?_
      | refine LeO.bind ?_ (fun _ => ?_)
theorem mute_Total.mono : ∀ a0 a1 k, LeO (mute_Total.f k a0 a1) (mute_Total.f (k + 1) a0 a1) := by
  intro a0 a1 k
  have ih0 := mute_Total.mono_l k
  unfold mute_Total.f
  repeat' first
      | (with_reducible exact ih0 _ _ _ _ _)
      | (with_reducible exact mute_Is.mono _ _)
      | (with_reducible exact LeO.refl _)
      | (with_reducible exact LeO.none _)
      | (with_reducible refine LeO.ite ?_ ?_)
      | (with_reducible refine LeO.bind ?_ (fun _ => ?_))
      | exact ih0 _ _ _ _ _
      | exact mute_Is.mono _ _
      | exact LeO.none _
      | refine LeO.ite ?_ ?_
      | refine LeO.bind ?_ (fun _ => ?_)
set_option maxHeartbeats 8000000 in
set_option maxRecDepth 100000 in
theorem mute_Total.calls (k : Nat) (A0 : Option Addr) (c0 : Nat) (l0 : List (S32)) (a1 : Int) (r : Int) (w : World) (hr0 : Kd.C k32 w A0 l0.length l0) (hc0 : l0.length ≤ c0) (h : mute_Total.f k l0 a1 = some r) :
    Calls Try.prog 24 #[.slice A0 l0.length c0, .int .i64 a1] w fun e w' => e = .returned (.int .i64 r) ∧ Below w.heap.size w w' := by
  have hu32 := Try.underlying32
  have HR0 := Aside0.mk hr0
  have HC0 := Aside0.mk hc0
  clear hr0 hc0
  have HB := Aside0.mk (Below.refl w.heap.size w)
  have H : ((mute_Is.f k l0).bind fun t293 => (if t293 = true then (mute_Total.l0 k a1 0 l0 (l0.length : Int) 0) else (some 0))) = some r := h
  clear h
  replace H := Option.bind_eq_some_iff.mp H
  obtain ⟨t293, A30, H⟩ := H
  replace H : (if t293 = true then (mute_Total.l0 k a1 0 l0 (l0.length : Int) 0) else (some 0)) = some r := H
  have A3 := Aside0.mk A30
  clear A30
  by_cases c4 : t293 = true
  · subst c4
    have H1 : (mute_Total.l0 k a1 0 l0 (l0.length : Int) 0) = some r := by rw [if_pos rfl] at H; exact H
    clear H
    have H := H1
    clear H1
    have H' := Aside0.mk H
    clear H
    go_enter Try.func24, Try.ntmps24
    go_wp2_with (first | ((with_reducible refine gate_callee (f := 20) rfl ?_); refine goesL_ (some 9) rfl rfl Try.func20 (by kernel_rfl) rfl #[.slice A0 l0.length c0] rfl (by (try simp only [List.map_toArray, List.map_cons, List.map_nil]); first | done | rfl | (simp only [List.length_drop, List.length_take]; rfl)) ?_; (with_reducible refine (mute_Is.calls k _ _ l0 true _ ?side1 ?side2 A3.out).mono ?_); (case side1 => repeat (first | exact HR0.out | (with_reducible refine Kd.C_alloc ?_ _) | (with_reducible refine Kd.C_drewN ?_ _) | (with_reducible refine Kd.C_drew ?_))); (case side2 => exact HC0.out); rintro e w5 ⟨rfl, hb⟩; refine ⟨_, rfl, ?_⟩; have n0_ := Aside0.mk (below_step (by repeat (first | (with_reducible first | exact HB.out | apply below_alloc | apply pw_below_drewN | apply below_drew1) | exact HB.out)) hb); clear HB; have HB := n0_; clear n0_; (try clear hb); (try clear hb2); (try clear hk); (try clear hi)))
    go_loopg [5, 13] k (fun kq v5 v13 w' => ∃ (x5_1 : Int) (x13_1 : Int), v5 = .int .i64 x5_1 ∧ v13 = .int .i64 x13_1 ∧ Aside0 (mute_Total.l0 kq a1 x5_1 l0 (l0.length : Int) x13_1 = some r) ∧ Aside0 (kq ≤ k) ∧ Aside0 (Below w.heap.size w w'))
    case atStart => exact ⟨(0), (0), (by first | rfl | (simp; done) | (simp [*]; done)), (by first | rfl | (simp; done) | (simp [*]; done)), H', ⟨Nat.le_refl _⟩, ⟨by repeat (first | (with_reducible first | exact HB.out | apply below_alloc | apply pw_below_drewN | apply below_drew1) | exact HB.out)⟩⟩
    case round =>
      clear H'
      try clear c2
      try clear p2
      try clear c4
      obtain ⟨x5_1, x13_1, rfl, rfl, HA, HK1, HB⟩ := hrel
      cases gk with
      | zero => exact absurd HA.out (by simp [mute_Total.l0])
      | succ k1 =>
        have H := HA.out
        clear HA
        simp only [mute_Total.l0] at H
        by_cases c6 : x13_1 < (l0.length : Int)
        · rw [if_pos c6] at H
          have c6b0 : decide (x13_1 < (l0.length : Int)) = true := decide_eq_true c6
          clear c6
          by_cases c7 : 0 ≤ x13_1
          · rw [if_pos c7] at H
            have c7b0 : decide (0 ≤ x13_1) = true := decide_eq_true c7
            clear c7
            by_cases c8 : x13_1 < (l0.length : Int)
            · rw [if_pos c8] at H
              have c8b0 : decide (x13_1 < (l0.length : Int)) = true := decide_eq_true c8
              clear c8
              by_cases c9 : ((rd_T32 l0 x13_1).f0) = a1
              · rw [if_pos c9] at H
                have c9b0 : (((rd_T32 l0 x13_1).f0) == a1) = true := beq_iff_eq.mpr c9
                have c9b1 : (((rd_T32 l0 x13_1).f0) != a1) = false := bne_eq_false_iff_eq.mpr c9
                clear c9
                have H' := Aside0.mk H
                clear H
                have p294 : 0 ≤ (x13_1 : Int) := of_decide_eq_true (by first | (with_reducible assumption) | assumption)
                have q294 : x13_1 < (l0.length : Int) := of_decide_eq_true (by first | (with_reducible assumption) | assumption)
                obtain ⟨ad294, e294, hx294_0, hx294_1, hx294_2⟩ := at_T32 HR0.out x13_1 p294 q294
                cases e294
                replace hx294_0 := (HB.out.cell (World.block_lt_of_cell? w _ hx294_0)).trans hx294_0
                replace hx294_1 := (HB.out.cell (World.block_lt_of_cell? w _ hx294_1)).trans hx294_1
                replace hx294_2 := (HB.out.cell (World.block_lt_of_cell? w _ hx294_2)).trans hx294_2
                replace p294 := eq_true p294
                replace q294 := eq_true q294
                go_wp2_with (first | ((with_reducible refine gate_dst (N := 7) rfl ?_); refine box_event ?hg (N := 7) ?hd (cs := #[.int .i64 0, .int .i64 0, .int .i64 0]) (t := 32) ?hr ?_; (case hd => rfl); (case hg => rfl); (case hr => first | (go_simp; done) | (go_simp; rfl)); intro gb295 hg w10 hbox hb; have n0_ := Aside0.mk (below_step (by repeat (first | (with_reducible first | exact HB.out | apply below_alloc | apply pw_below_drewN | apply below_drew1) | exact HB.out)) hb); have n1_ := Aside0.mk (hbox); have n2_ := Aside0.mk ((by rw [hg]; exact (below_size (by repeat (first | (with_reducible first | exact HB.out | apply below_alloc | apply pw_below_drewN | apply below_drew1) | exact HB.out))) : w.heap.size ≤ gb295)); have n3_ := Aside0.mk ((by rw [hg]; exact (below_size (by repeat (first | (with_reducible first | exact HB.out | apply below_alloc | apply pw_below_drewN | apply below_drew1) | exact HB.out))) : w.heap.size ≤ gb295)); clear HB; have HB := n0_; have BK295 := n1_; have GW295 := n2_; have GE295 := n3_; clear n0_ n1_ n2_ n3_; clear hb hbox hg; have hcz11_0 : w10.cell? ⟨gb295, 0, none⟩ = some (.int .i64 0) := (blk_cell BK295.out 0).trans rfl; have hcz11_1 : w10.cell? ⟨gb295, 1, none⟩ = some (.int .i64 0) := (blk_cell BK295.out 1).trans rfl; have hcz11_2 : w10.cell? ⟨gb295, 2, none⟩ = some (.int .i64 0) := (blk_cell BK295.out 2).trans rfl; have hfz11_0 := blk_frozen BK295.out 0; have hfz11_1 := blk_frozen BK295.out 1; have hfz11_2 := blk_frozen BK295.out 2))
                go_roundg k1
                case measure => have := HK1.out; omega
                case rel => exact ⟨(wrap64 (x5_1 + (wrap64 (((rd_T32 l0 x13_1).f2) - ((rd_T32 l0 x13_1).f1))))), (wrap64 (x13_1 + 1)), (by first | rfl | (simp; done) | (simp [*]; done)), (by first | rfl | (simp; done) | (simp [*]; done)), H', ⟨by have := HK1.out; omega⟩, ⟨by repeat (first | (with_reducible first | exact HB.out | apply below_alloc | apply pw_below_drewN | apply below_drew1 | refine below_set ?_ GE295.out) | exact HB.out)⟩⟩
              · rw [if_neg c9] at H
                have c9b0 : (((rd_T32 l0 x13_1).f0) == a1) = false := beq_eq_false_iff_ne.mpr c9
                have c9b1 : (((rd_T32 l0 x13_1).f0) != a1) = true := bne_iff_ne.mpr c9
                have H' := Aside0.mk H
                clear H
                have p294 : 0 ≤ (x13_1 : Int) := of_decide_eq_true (by first | (with_reducible assumption) | assumption)
                have q294 : x13_1 < (l0.length : Int) := of_decide_eq_true (by first | (with_reducible assumption) | assumption)
                obtain ⟨ad294, e294, hx294_0, hx294_1, hx294_2⟩ := at_T32 HR0.out x13_1 p294 q294
                cases e294
                replace hx294_0 := (HB.out.cell (World.block_lt_of_cell? w _ hx294_0)).trans hx294_0
                replace hx294_1 := (HB.out.cell (World.block_lt_of_cell? w _ hx294_1)).trans hx294_1
                replace hx294_2 := (HB.out.cell (World.block_lt_of_cell? w _ hx294_2)).trans hx294_2
                replace p294 := eq_true p294
                replace q294 := eq_true q294
                go_wp2_with (first | ((with_reducible refine gate_dst (N := 7) rfl ?_); refine box_event ?hg (N := 7) ?hd (cs := #[.int .i64 0, .int .i64 0, .int .i64 0]) (t := 32) ?hr ?_; (case hd => rfl); (case hg => rfl); (case hr => first | (go_simp; done) | (go_simp; rfl)); intro gb295 hg w12 hbox hb; have n0_ := Aside0.mk (below_step (by repeat (first | (with_reducible first | exact HB.out | apply below_alloc | apply pw_below_drewN | apply below_drew1) | exact HB.out)) hb); have n1_ := Aside0.mk (hbox); have n2_ := Aside0.mk ((by rw [hg]; exact (below_size (by repeat (first | (with_reducible first | exact HB.out | apply below_alloc | apply pw_below_drewN | apply below_drew1) | exact HB.out))) : w.heap.size ≤ gb295)); have n3_ := Aside0.mk ((by rw [hg]; exact (below_size (by repeat (first | (with_reducible first | exact HB.out | apply below_alloc | apply pw_below_drewN | apply below_drew1) | exact HB.out))) : w.heap.size ≤ gb295)); clear HB; have HB := n0_; have BK295 := n1_; have GW295 := n2_; have GE295 := n3_; clear n0_ n1_ n2_ n3_; clear hb hbox hg; have hcz13_0 : w12.cell? ⟨gb295, 0, none⟩ = some (.int .i64 0) := (blk_cell BK295.out 0).trans rfl; have hcz13_1 : w12.cell? ⟨gb295, 1, none⟩ = some (.int .i64 0) := (blk_cell BK295.out 1).trans rfl; have hcz13_2 : w12.cell? ⟨gb295, 2, none⟩ = some (.int .i64 0) := (blk_cell BK295.out 2).trans rfl; have hfz13_0 := blk_frozen BK295.out 0; have hfz13_1 := blk_frozen BK295.out 1; have hfz13_2 := blk_frozen BK295.out 2))
                go_roundg k1
                case measure => have := HK1.out; omega
                case rel => exact ⟨(x5_1), (wrap64 (x13_1 + 1)), (by first | rfl | (simp; done) | (simp [*]; done)), (by first | rfl | (simp; done) | (simp [*]; done)), H', ⟨by have := HK1.out; omega⟩, ⟨by repeat (first | (with_reducible first | exact HB.out | apply below_alloc | apply pw_below_drewN | apply below_drew1 | refine below_set ?_ GE295.out) | exact HB.out)⟩⟩
            · rw [if_neg c8] at H
              exact absurd H (by simp)
          · rw [if_neg c7] at H
            exact absurd H (by simp)
        · rw [if_neg c6] at H
          have c6b0 : decide (x13_1 < (l0.length : Int)) = false := decide_eq_false c6
          clear c6
          obtain rfl := Option.some.inj H
          go_wp2
          go_ret
          exact ⟨by first | rfl | (simp [errW_none, errW_some] <;> rfl) | (simp [*, errW_none, errW_some] <;> rfl), by repeat (first | (with_reducible first | exact HB.out | apply below_alloc | apply pw_below_drewN | apply below_drew1) | exact HB.out)⟩
  · replace c4 := Bool.eq_false_iff.mpr c4
    subst c4
    have H1 : (some 0) = some r := by rw [if_neg (show ¬ (false = true) by decide)] at H; exact H
    clear H
    have H := H1
    clear H1
    obtain rfl := Option.some.inj H
    go_enter Try.func24, Try.ntmps24
    go_wp2_with (first | ((with_reducible refine gate_callee (f := 20) rfl ?_); refine goesL_ (some 9) rfl rfl Try.func20 (by kernel_rfl) rfl #[.slice A0 l0.length c0] rfl (by (try simp only [List.map_toArray, List.map_cons, List.map_nil]); first | done | rfl | (simp only [List.length_drop, List.length_take]; rfl)) ?_; (with_reducible refine (mute_Is.calls k _ _ l0 false _ ?side1 ?side2 A3.out).mono ?_); (case side1 => repeat (first | exact HR0.out | (with_reducible refine Kd.C_alloc ?_ _) | (with_reducible refine Kd.C_drewN ?_ _) | (with_reducible refine Kd.C_drew ?_))); (case side2 => exact HC0.out); rintro e w14 ⟨rfl, hb⟩; refine ⟨_, rfl, ?_⟩; have n0_ := Aside0.mk (below_step (by repeat (first | (with_reducible first | exact HB.out | apply below_alloc | apply pw_below_drewN | apply below_drew1) | exact HB.out)) hb); clear HB; have HB := n0_; clear n0_; (try clear hb); (try clear hb2); (try clear hk); (try clear hi)))
    go_ret
    exact ⟨by first | rfl | (simp [errW_none, errW_some] <;> rfl) | (simp [*, errW_none, errW_some] <;> rfl), by repeat (first | (with_reducible first | exact HB.out | apply below_alloc | apply pw_below_drewN | apply below_drew1) | exact HB.out)⟩
def watchmanlaw10_muted.f (k : Nat)  : Option (Bool) := (some (([(⟨1, 1, 5⟩ : S32), (⟨1, 7, 20⟩ : S32)] : List (S32)) : List (S32))).bind fun y296 => ((mute_Add.f k y296 (([(⟨1, 5, 9⟩ : S32)] : List (S32)))).bind fun bt303 => ((mute_Cut.f k y296 (([(⟨1, 5, 9⟩ : S32)] : List (S32)))).bind fun bt310 => ((mute_Add.f k y296 (([(⟨0, 0, 0⟩ : S32)] : List (S32)))).bind fun bt317 => ((mute_Till.f y296 1 7).bind fun bt321 => (if bt303.2 = 0 then ((watchmanref10_Same.f k bt303.1 (([(⟨1, 1, 20⟩ : S32)] : List (S32)))).bind fun t326 => (if t326 = true then (if bt310.2 = bt303.2 then ((watchmanref10_Same.f k bt310.1 (([(⟨1, 1, 5⟩ : S32), (⟨1, 9, 20⟩ : S32)] : List (S32)))).bind fun t330 => (if t330 = true then (if bt317.2 = 1 then (if bt321.2 = true then (if bt321.1 = 20 then ((mute_Is.f k y296).bind fun t331 => (if t331 = true then ((mute_Has.f y296 1 4).bind fun t332 => (if t332 = true then ((mute_Has.f y296 1 5).bind fun t333 => (if t333 = true then (none) else ((mute_Total.f k y296 1).bind fun t334 => (some (t334 == 17))))) else (none))) else (none))) else (none)) else (none)) else (none)) else (none))) else (none)) else (none))) else (none))))))
theorem watchmanlaw10_muted.mono : ∀ k, LeO (watchmanlaw10_muted.f k ) (watchmanlaw10_muted.f (k + 1) ) := by
  intro  k
  unfold watchmanlaw10_muted.f
  repeat' first
      | (with_reducible exact mute_Add.mono _ _ _)
      | (with_reducible exact mute_Cut.mono _ _ _)
      | (with_reducible exact mute_Is.mono _ _)
      | (with_reducible exact mute_Total.mono _ _ _)
      | (with_reducible exact watchmanref10_Same.mono _ _ _)
      | (with_reducible exact LeO.refl _)
      | (with_reducible exact LeO.none _)
      | (with_reducible refine LeO.ite ?_ ?_)
      | (with_reducible refine LeO.bind ?_ (fun _ => ?_))
      | exact mute_Add.mono _ _ _
      | exact mute_Cut.mono _ _ _
      | exact mute_Is.mono _ _
      | exact mute_Total.mono _ _ _
      | exact watchmanref10_Same.mono _ _ _
      | exact LeO.none _
      | refine LeO.ite ?_ ?_
      | refine LeO.bind ?_ (fun _ => ?_)
set_option maxHeartbeats 8000000 in
set_option maxRecDepth 100000 in
theorem watchmanlaw10_muted.calls (k : Nat)  (r : Bool) (w : World) (h : watchmanlaw10_muted.f k  = some r) :
    Calls Try.prog 19 #[] w fun e w' => e = .returned (.bool r) ∧ Below w.heap.size w w' := by
  have hu32 := Try.underlying32
  have HB := Aside0.mk (Below.refl w.heap.size w)
  have H : ((some (([(⟨1, 1, 5⟩ : S32), (⟨1, 7, 20⟩ : S32)] : List (S32)) : List (S32))).bind fun y296 => ((mute_Add.f k y296 (([(⟨1, 5, 9⟩ : S32)] : List (S32)))).bind fun bt303 => ((mute_Cut.f k y296 (([(⟨1, 5, 9⟩ : S32)] : List (S32)))).bind fun bt310 => ((mute_Add.f k y296 (([(⟨0, 0, 0⟩ : S32)] : List (S32)))).bind fun bt317 => ((mute_Till.f y296 1 7).bind fun bt321 => (if bt303.2 = 0 then ((watchmanref10_Same.f k bt303.1 (([(⟨1, 1, 20⟩ : S32)] : List (S32)))).bind fun t326 => (if t326 = true then (if bt310.2 = bt303.2 then ((watchmanref10_Same.f k bt310.1 (([(⟨1, 1, 5⟩ : S32), (⟨1, 9, 20⟩ : S32)] : List (S32)))).bind fun t330 => (if t330 = true then (if bt317.2 = 1 then (if bt321.2 = true then (if bt321.1 = 20 then ((mute_Is.f k y296).bind fun t331 => (if t331 = true then ((mute_Has.f y296 1 4).bind fun t332 => (if t332 = true then ((mute_Has.f y296 1 5).bind fun t333 => (if t333 = true then (none) else ((mute_Total.f k y296 1).bind fun t334 => (some (t334 == 17))))) else (none))) else (none))) else (none)) else (none)) else (none)) else (none))) else (none)) else (none))) else (none))))))) = some r := h
  clear h
  obtain ⟨y296, hy296⟩ : ∃ y_ : List (S32), y_ = (([(⟨1, 1, 5⟩ : S32), (⟨1, 7, 20⟩ : S32)] : List (S32))) := ⟨_, rfl⟩
  replace H : ((mute_Add.f k y296 (([(⟨1, 5, 9⟩ : S32)] : List (S32)))).bind fun bt303 => ((mute_Cut.f k y296 (([(⟨1, 5, 9⟩ : S32)] : List (S32)))).bind fun bt310 => ((mute_Add.f k y296 (([(⟨0, 0, 0⟩ : S32)] : List (S32)))).bind fun bt317 => ((mute_Till.f y296 1 7).bind fun bt321 => (if bt303.2 = 0 then ((watchmanref10_Same.f k bt303.1 (([(⟨1, 1, 20⟩ : S32)] : List (S32)))).bind fun t326 => (if t326 = true then (if bt310.2 = bt303.2 then ((watchmanref10_Same.f k bt310.1 (([(⟨1, 1, 5⟩ : S32), (⟨1, 9, 20⟩ : S32)] : List (S32)))).bind fun t330 => (if t330 = true then (if bt317.2 = 1 then (if bt321.2 = true then (if bt321.1 = 20 then ((mute_Is.f k y296).bind fun t331 => (if t331 = true then ((mute_Has.f y296 1 4).bind fun t332 => (if t332 = true then ((mute_Has.f y296 1 5).bind fun t333 => (if t333 = true then (none) else ((mute_Total.f k y296 1).bind fun t334 => (some (t334 == 17))))) else (none))) else (none))) else (none)) else (none)) else (none)) else (none))) else (none)) else (none))) else (none)))))) = some r := by first | (rw [hy296]; with_reducible exact H) | (have H2_ := (Option.bind_some _ _).symm.trans H; rw [hy296]; with_reducible exact H2_) | (have H2_ := (Option.bind_some _ _).symm.trans H; with_reducible exact H2_) | with_reducible exact H | (rw [hy296]; exact H) | exact H
  have Ny296 := Aside0.mk hy296
  clear hy296
  obtain ⟨y300, hy300⟩ : ∃ y_ : List (S32), y_ = (([(⟨1, 5, 9⟩ : S32)] : List (S32))) := ⟨_, rfl⟩
  replace H : ((mute_Add.f k y296 y300).bind fun bt303 => ((mute_Cut.f k y296 (([(⟨1, 5, 9⟩ : S32)] : List (S32)))).bind fun bt310 => ((mute_Add.f k y296 (([(⟨0, 0, 0⟩ : S32)] : List (S32)))).bind fun bt317 => ((mute_Till.f y296 1 7).bind fun bt321 => (if bt303.2 = 0 then ((watchmanref10_Same.f k bt303.1 (([(⟨1, 1, 20⟩ : S32)] : List (S32)))).bind fun t326 => (if t326 = true then (if bt310.2 = bt303.2 then ((watchmanref10_Same.f k bt310.1 (([(⟨1, 1, 5⟩ : S32), (⟨1, 9, 20⟩ : S32)] : List (S32)))).bind fun t330 => (if t330 = true then (if bt317.2 = 1 then (if bt321.2 = true then (if bt321.1 = 20 then ((mute_Is.f k y296).bind fun t331 => (if t331 = true then ((mute_Has.f y296 1 4).bind fun t332 => (if t332 = true then ((mute_Has.f y296 1 5).bind fun t333 => (if t333 = true then (none) else ((mute_Total.f k y296 1).bind fun t334 => (some (t334 == 17))))) else (none))) else (none))) else (none)) else (none)) else (none)) else (none))) else (none)) else (none))) else (none)))))) = some r := by first | (rw [hy300]; with_reducible exact H) | (have H2_ := (Option.bind_some _ _).symm.trans H; rw [hy300]; with_reducible exact H2_) | (have H2_ := (Option.bind_some _ _).symm.trans H; with_reducible exact H2_) | with_reducible exact H | (rw [hy300]; exact H) | exact H
  have Ny300 := Aside0.mk hy300
  clear hy300
  replace H := Option.bind_eq_some_iff.mp H
  obtain ⟨⟨t303, t304⟩, A10, H⟩ := H
  replace H : ((mute_Cut.f k y296 (([(⟨1, 5, 9⟩ : S32)] : List (S32)))).bind fun bt310 => ((mute_Add.f k y296 (([(⟨0, 0, 0⟩ : S32)] : List (S32)))).bind fun bt317 => ((mute_Till.f y296 1 7).bind fun bt321 => (if t304 = 0 then ((watchmanref10_Same.f k t303 (([(⟨1, 1, 20⟩ : S32)] : List (S32)))).bind fun t326 => (if t326 = true then (if bt310.2 = t304 then ((watchmanref10_Same.f k bt310.1 (([(⟨1, 1, 5⟩ : S32), (⟨1, 9, 20⟩ : S32)] : List (S32)))).bind fun t330 => (if t330 = true then (if bt317.2 = 1 then (if bt321.2 = true then (if bt321.1 = 20 then ((mute_Is.f k y296).bind fun t331 => (if t331 = true then ((mute_Has.f y296 1 4).bind fun t332 => (if t332 = true then ((mute_Has.f y296 1 5).bind fun t333 => (if t333 = true then (none) else ((mute_Total.f k y296 1).bind fun t334 => (some (t334 == 17))))) else (none))) else (none))) else (none)) else (none)) else (none)) else (none))) else (none)) else (none))) else (none))))) = some r := H
  have A1 := Aside0.mk A10
  clear A10
  obtain ⟨y307, hy307⟩ : ∃ y_ : List (S32), y_ = (([(⟨1, 5, 9⟩ : S32)] : List (S32))) := ⟨_, rfl⟩
  replace H : ((mute_Cut.f k y296 y307).bind fun bt310 => ((mute_Add.f k y296 (([(⟨0, 0, 0⟩ : S32)] : List (S32)))).bind fun bt317 => ((mute_Till.f y296 1 7).bind fun bt321 => (if t304 = 0 then ((watchmanref10_Same.f k t303 (([(⟨1, 1, 20⟩ : S32)] : List (S32)))).bind fun t326 => (if t326 = true then (if bt310.2 = t304 then ((watchmanref10_Same.f k bt310.1 (([(⟨1, 1, 5⟩ : S32), (⟨1, 9, 20⟩ : S32)] : List (S32)))).bind fun t330 => (if t330 = true then (if bt317.2 = 1 then (if bt321.2 = true then (if bt321.1 = 20 then ((mute_Is.f k y296).bind fun t331 => (if t331 = true then ((mute_Has.f y296 1 4).bind fun t332 => (if t332 = true then ((mute_Has.f y296 1 5).bind fun t333 => (if t333 = true then (none) else ((mute_Total.f k y296 1).bind fun t334 => (some (t334 == 17))))) else (none))) else (none))) else (none)) else (none)) else (none)) else (none))) else (none)) else (none))) else (none))))) = some r := by first | (rw [hy307]; with_reducible exact H) | (have H2_ := (Option.bind_some _ _).symm.trans H; rw [hy307]; with_reducible exact H2_) | (have H2_ := (Option.bind_some _ _).symm.trans H; with_reducible exact H2_) | with_reducible exact H | (rw [hy307]; exact H) | exact H
  have Ny307 := Aside0.mk hy307
  clear hy307
  replace H := Option.bind_eq_some_iff.mp H
  obtain ⟨⟨t310, t311⟩, A20, H⟩ := H
  replace H : ((mute_Add.f k y296 (([(⟨0, 0, 0⟩ : S32)] : List (S32)))).bind fun bt317 => ((mute_Till.f y296 1 7).bind fun bt321 => (if t304 = 0 then ((watchmanref10_Same.f k t303 (([(⟨1, 1, 20⟩ : S32)] : List (S32)))).bind fun t326 => (if t326 = true then (if t311 = t304 then ((watchmanref10_Same.f k t310 (([(⟨1, 1, 5⟩ : S32), (⟨1, 9, 20⟩ : S32)] : List (S32)))).bind fun t330 => (if t330 = true then (if bt317.2 = 1 then (if bt321.2 = true then (if bt321.1 = 20 then ((mute_Is.f k y296).bind fun t331 => (if t331 = true then ((mute_Has.f y296 1 4).bind fun t332 => (if t332 = true then ((mute_Has.f y296 1 5).bind fun t333 => (if t333 = true then (none) else ((mute_Total.f k y296 1).bind fun t334 => (some (t334 == 17))))) else (none))) else (none))) else (none)) else (none)) else (none)) else (none))) else (none)) else (none))) else (none)))) = some r := H
  have A2 := Aside0.mk A20
  clear A20
  obtain ⟨y314, hy314⟩ : ∃ y_ : List (S32), y_ = (([(⟨0, 0, 0⟩ : S32)] : List (S32))) := ⟨_, rfl⟩
  replace H : ((mute_Add.f k y296 y314).bind fun bt317 => ((mute_Till.f y296 1 7).bind fun bt321 => (if t304 = 0 then ((watchmanref10_Same.f k t303 (([(⟨1, 1, 20⟩ : S32)] : List (S32)))).bind fun t326 => (if t326 = true then (if t311 = t304 then ((watchmanref10_Same.f k t310 (([(⟨1, 1, 5⟩ : S32), (⟨1, 9, 20⟩ : S32)] : List (S32)))).bind fun t330 => (if t330 = true then (if bt317.2 = 1 then (if bt321.2 = true then (if bt321.1 = 20 then ((mute_Is.f k y296).bind fun t331 => (if t331 = true then ((mute_Has.f y296 1 4).bind fun t332 => (if t332 = true then ((mute_Has.f y296 1 5).bind fun t333 => (if t333 = true then (none) else ((mute_Total.f k y296 1).bind fun t334 => (some (t334 == 17))))) else (none))) else (none))) else (none)) else (none)) else (none)) else (none))) else (none)) else (none))) else (none)))) = some r := by first | (rw [hy314]; with_reducible exact H) | (have H2_ := (Option.bind_some _ _).symm.trans H; rw [hy314]; with_reducible exact H2_) | (have H2_ := (Option.bind_some _ _).symm.trans H; with_reducible exact H2_) | with_reducible exact H | (rw [hy314]; exact H) | exact H
  have Ny314 := Aside0.mk hy314
  clear hy314
  replace H := Option.bind_eq_some_iff.mp H
  obtain ⟨⟨t317, t318⟩, A30, H⟩ := H
  replace H : ((mute_Till.f y296 1 7).bind fun bt321 => (if t304 = 0 then ((watchmanref10_Same.f k t303 (([(⟨1, 1, 20⟩ : S32)] : List (S32)))).bind fun t326 => (if t326 = true then (if t311 = t304 then ((watchmanref10_Same.f k t310 (([(⟨1, 1, 5⟩ : S32), (⟨1, 9, 20⟩ : S32)] : List (S32)))).bind fun t330 => (if t330 = true then (if t318 = 1 then (if bt321.2 = true then (if bt321.1 = 20 then ((mute_Is.f k y296).bind fun t331 => (if t331 = true then ((mute_Has.f y296 1 4).bind fun t332 => (if t332 = true then ((mute_Has.f y296 1 5).bind fun t333 => (if t333 = true then (none) else ((mute_Total.f k y296 1).bind fun t334 => (some (t334 == 17))))) else (none))) else (none))) else (none)) else (none)) else (none)) else (none))) else (none)) else (none))) else (none))) = some r := H
  have A3 := Aside0.mk A30
  clear A30
  replace H := Option.bind_eq_some_iff.mp H
  obtain ⟨⟨t321, t322⟩, A40, H⟩ := H
  replace H : (if t304 = 0 then ((watchmanref10_Same.f k t303 (([(⟨1, 1, 20⟩ : S32)] : List (S32)))).bind fun t326 => (if t326 = true then (if t311 = t304 then ((watchmanref10_Same.f k t310 (([(⟨1, 1, 5⟩ : S32), (⟨1, 9, 20⟩ : S32)] : List (S32)))).bind fun t330 => (if t330 = true then (if t318 = 1 then (if t322 = true then (if t321 = 20 then ((mute_Is.f k y296).bind fun t331 => (if t331 = true then ((mute_Has.f y296 1 4).bind fun t332 => (if t332 = true then ((mute_Has.f y296 1 5).bind fun t333 => (if t333 = true then (none) else ((mute_Total.f k y296 1).bind fun t334 => (some (t334 == 17))))) else (none))) else (none))) else (none)) else (none)) else (none)) else (none))) else (none)) else (none))) else (none)) = some r := H
  have A4 := Aside0.mk A40
  clear A40
  by_cases c5 : t304 = 0
  · rw [if_pos c5] at H
    have c5b0 : (t304 == 0) = true := beq_iff_eq.mpr c5
    have c5b1 : (t304 != 0) = false := bne_eq_false_iff_eq.mpr c5
    clear c5
    obtain ⟨y323, hy323⟩ : ∃ y_ : List (S32), y_ = (([(⟨1, 1, 20⟩ : S32)] : List (S32))) := ⟨_, rfl⟩
    replace H : ((watchmanref10_Same.f k t303 y323).bind fun t326 => (if t326 = true then (if t311 = t304 then ((watchmanref10_Same.f k t310 (([(⟨1, 1, 5⟩ : S32), (⟨1, 9, 20⟩ : S32)] : List (S32)))).bind fun t330 => (if t330 = true then (if t318 = 1 then (if t322 = true then (if t321 = 20 then ((mute_Is.f k y296).bind fun t331 => (if t331 = true then ((mute_Has.f y296 1 4).bind fun t332 => (if t332 = true then ((mute_Has.f y296 1 5).bind fun t333 => (if t333 = true then (none) else ((mute_Total.f k y296 1).bind fun t334 => (some (t334 == 17))))) else (none))) else (none))) else (none)) else (none)) else (none)) else (none))) else (none)) else (none))) = some r := by first | (rw [hy323]; with_reducible exact H) | (have H2_ := (Option.bind_some _ _).symm.trans H; rw [hy323]; with_reducible exact H2_) | (have H2_ := (Option.bind_some _ _).symm.trans H; with_reducible exact H2_) | with_reducible exact H | (rw [hy323]; exact H) | exact H
    have Ny323 := Aside0.mk hy323
    clear hy323
    replace H := Option.bind_eq_some_iff.mp H
    obtain ⟨t326, A60, H⟩ := H
    replace H : (if t326 = true then (if t311 = t304 then ((watchmanref10_Same.f k t310 (([(⟨1, 1, 5⟩ : S32), (⟨1, 9, 20⟩ : S32)] : List (S32)))).bind fun t330 => (if t330 = true then (if t318 = 1 then (if t322 = true then (if t321 = 20 then ((mute_Is.f k y296).bind fun t331 => (if t331 = true then ((mute_Has.f y296 1 4).bind fun t332 => (if t332 = true then ((mute_Has.f y296 1 5).bind fun t333 => (if t333 = true then (none) else ((mute_Total.f k y296 1).bind fun t334 => (some (t334 == 17))))) else (none))) else (none))) else (none)) else (none)) else (none)) else (none))) else (none)) else (none)) = some r := H
    have A6 := Aside0.mk A60
    clear A60
    by_cases c7 : t326 = true
    · subst c7
      have H1 : (if t311 = t304 then ((watchmanref10_Same.f k t310 (([(⟨1, 1, 5⟩ : S32), (⟨1, 9, 20⟩ : S32)] : List (S32)))).bind fun t330 => (if t330 = true then (if t318 = 1 then (if t322 = true then (if t321 = 20 then ((mute_Is.f k y296).bind fun t331 => (if t331 = true then ((mute_Has.f y296 1 4).bind fun t332 => (if t332 = true then ((mute_Has.f y296 1 5).bind fun t333 => (if t333 = true then (none) else ((mute_Total.f k y296 1).bind fun t334 => (some (t334 == 17))))) else (none))) else (none))) else (none)) else (none)) else (none)) else (none))) else (none)) = some r := by rw [if_pos rfl] at H; exact H
      clear H
      have H := H1
      clear H1
      by_cases c8 : t311 = t304
      · rw [if_pos c8] at H
        have c8b0 : (t311 == t304) = true := beq_iff_eq.mpr c8
        have c8b1 : (t311 != t304) = false := bne_eq_false_iff_eq.mpr c8
        clear c8
        obtain ⟨y327, hy327⟩ : ∃ y_ : List (S32), y_ = (([(⟨1, 1, 5⟩ : S32), (⟨1, 9, 20⟩ : S32)] : List (S32))) := ⟨_, rfl⟩
        replace H : ((watchmanref10_Same.f k t310 y327).bind fun t330 => (if t330 = true then (if t318 = 1 then (if t322 = true then (if t321 = 20 then ((mute_Is.f k y296).bind fun t331 => (if t331 = true then ((mute_Has.f y296 1 4).bind fun t332 => (if t332 = true then ((mute_Has.f y296 1 5).bind fun t333 => (if t333 = true then (none) else ((mute_Total.f k y296 1).bind fun t334 => (some (t334 == 17))))) else (none))) else (none))) else (none)) else (none)) else (none)) else (none))) = some r := by first | (rw [hy327]; with_reducible exact H) | (have H2_ := (Option.bind_some _ _).symm.trans H; rw [hy327]; with_reducible exact H2_) | (have H2_ := (Option.bind_some _ _).symm.trans H; with_reducible exact H2_) | with_reducible exact H | (rw [hy327]; exact H) | exact H
        have Ny327 := Aside0.mk hy327
        clear hy327
        replace H := Option.bind_eq_some_iff.mp H
        obtain ⟨t330, A90, H⟩ := H
        replace H : (if t330 = true then (if t318 = 1 then (if t322 = true then (if t321 = 20 then ((mute_Is.f k y296).bind fun t331 => (if t331 = true then ((mute_Has.f y296 1 4).bind fun t332 => (if t332 = true then ((mute_Has.f y296 1 5).bind fun t333 => (if t333 = true then (none) else ((mute_Total.f k y296 1).bind fun t334 => (some (t334 == 17))))) else (none))) else (none))) else (none)) else (none)) else (none)) else (none)) = some r := H
        have A9 := Aside0.mk A90
        clear A90
        by_cases c10 : t330 = true
        · subst c10
          have H1 : (if t318 = 1 then (if t322 = true then (if t321 = 20 then ((mute_Is.f k y296).bind fun t331 => (if t331 = true then ((mute_Has.f y296 1 4).bind fun t332 => (if t332 = true then ((mute_Has.f y296 1 5).bind fun t333 => (if t333 = true then (none) else ((mute_Total.f k y296 1).bind fun t334 => (some (t334 == 17))))) else (none))) else (none))) else (none)) else (none)) else (none)) = some r := by rw [if_pos rfl] at H; exact H
          clear H
          have H := H1
          clear H1
          by_cases c11 : t318 = 1
          · rw [if_pos c11] at H
            have c11b0 : (t318 == 1) = true := beq_iff_eq.mpr c11
            have c11b1 : (t318 != 1) = false := bne_eq_false_iff_eq.mpr c11
            clear c11
            by_cases c12 : t322 = true
            · subst c12
              have H1 : (if t321 = 20 then ((mute_Is.f k y296).bind fun t331 => (if t331 = true then ((mute_Has.f y296 1 4).bind fun t332 => (if t332 = true then ((mute_Has.f y296 1 5).bind fun t333 => (if t333 = true then (none) else ((mute_Total.f k y296 1).bind fun t334 => (some (t334 == 17))))) else (none))) else (none))) else (none)) = some r := by rw [if_pos rfl] at H; exact H
              clear H
              have H := H1
              clear H1
              by_cases c13 : t321 = 20
              · rw [if_pos c13] at H
                have c13b0 : (t321 == 20) = true := beq_iff_eq.mpr c13
                have c13b1 : (t321 != 20) = false := bne_eq_false_iff_eq.mpr c13
                clear c13
                replace H := Option.bind_eq_some_iff.mp H
                obtain ⟨t331, A140, H⟩ := H
                replace H : (if t331 = true then ((mute_Has.f y296 1 4).bind fun t332 => (if t332 = true then ((mute_Has.f y296 1 5).bind fun t333 => (if t333 = true then (none) else ((mute_Total.f k y296 1).bind fun t334 => (some (t334 == 17))))) else (none))) else (none)) = some r := H
                have A14 := Aside0.mk A140
                clear A140
                by_cases c15 : t331 = true
                · subst c15
                  have H1 : ((mute_Has.f y296 1 4).bind fun t332 => (if t332 = true then ((mute_Has.f y296 1 5).bind fun t333 => (if t333 = true then (none) else ((mute_Total.f k y296 1).bind fun t334 => (some (t334 == 17))))) else (none))) = some r := by rw [if_pos rfl] at H; exact H
                  clear H
                  have H := H1
                  clear H1
                  replace H := Option.bind_eq_some_iff.mp H
                  obtain ⟨t332, A160, H⟩ := H
                  replace H : (if t332 = true then ((mute_Has.f y296 1 5).bind fun t333 => (if t333 = true then (none) else ((mute_Total.f k y296 1).bind fun t334 => (some (t334 == 17))))) else (none)) = some r := H
                  have A16 := Aside0.mk A160
                  clear A160
                  by_cases c17 : t332 = true
                  · subst c17
                    have H1 : ((mute_Has.f y296 1 5).bind fun t333 => (if t333 = true then (none) else ((mute_Total.f k y296 1).bind fun t334 => (some (t334 == 17))))) = some r := by rw [if_pos rfl] at H; exact H
                    clear H
                    have H := H1
                    clear H1
                    replace H := Option.bind_eq_some_iff.mp H
                    obtain ⟨t333, A180, H⟩ := H
                    replace H : (if t333 = true then (none) else ((mute_Total.f k y296 1).bind fun t334 => (some (t334 == 17)))) = some r := H
                    have A18 := Aside0.mk A180
                    clear A180
                    by_cases c19 : t333 = true
                    · subst c19
                      have H1 : (none) = some r := by rw [if_pos rfl] at H; exact H
                      clear H
                      have H := H1
                      clear H1
                      exact absurd H (by simp)
                    · replace c19 := Bool.eq_false_iff.mpr c19
                      subst c19
                      have H1 : ((mute_Total.f k y296 1).bind fun t334 => (some (t334 == 17))) = some r := by rw [if_neg (show ¬ (false = true) by decide)] at H; exact H
                      clear H
                      have H := H1
                      clear H1
                      replace H := Option.bind_eq_some_iff.mp H
                      obtain ⟨t334, A200, H⟩ := H
                      replace H : (some (t334 == 17)) = some r := H
                      have A20 := Aside0.mk A200
                      clear A200
                      obtain rfl := Option.some.inj H
                      go_enter Try.func19, Try.ntmps19
                      go_wp2_with (first | ((with_reducible refine gate_dst (N := 13) rfl ?_); (try (refine gate_guard (by rfl) ?_; dsimp only)); refine Kd.R_lit k32 _ 32 ?hg (N := 13) ?hd (xs := ([(⟨1, 1, 5⟩ : S32), (⟨1, 7, 20⟩ : S32)] : List (S32))) (inner := [.int .i64 1, .int .i64 1, .int .i64 5, .int .i64 1, .int .i64 7, .int .i64 20]) (ok := fun _ => True) (okp := fun _ => True) ?hr ?hp (fun _ hk => hk) trivial (Below.refl _ _) (Nat.le_refl _) (by simp) ?_; (case hd => rfl); (case hg => rfl); (case hr => first | (go_simp; done) | (go_simp; rfl)); (case hp => exact (Reps.c3 (show Kd.M k32 _ _ _ (⟨1, 1, 5⟩ : S32) [.int .i64 1, .int .i64 1, .int .i64 5] from (k32_mkM _ _ _ (⟨1, 1, 5⟩ : S32) )) (Reps.c3 (show Kd.M k32 _ _ _ (⟨1, 7, 20⟩ : S32) [.int .i64 1, .int .i64 7, .int .i64 20] from (k32_mkM _ _ _ (⟨1, 7, 20⟩ : S32) )) (Reps.none _ _)))); intro v297 w21 ho22 hb hg_ hnew_; clear hg_ hnew_; (first | rw [← Ny296.out] at ho22 | (simp only [Int.reduceToNat] at ho22; rw [← Ny296.out] at ho22)); have n0_ := Aside0.mk (Kd.R_lower ho22 (below_size (by repeat (first | (with_reducible first | exact HB.out | apply below_alloc | apply pw_below_drewN | apply below_drew1) | exact HB.out)))); have n1_ := Aside0.mk (below_step (by repeat (first | (with_reducible first | exact HB.out | apply below_alloc | apply pw_below_drewN | apply below_drew1) | exact HB.out)) hb); clear HB; have HO298 := n0_; have HB := n1_; clear n0_ n1_; clear hb ho22) | ((with_reducible refine gate_dst (N := 2) rfl ?_); (try (refine gate_guard (by rfl) ?_; dsimp only)); refine box_event ?hg (N := 2) ?hd (cs := #[.int .i64 0, .int .i64 0, .int .i64 0]) (t := 32) ?hr ?_; (case hd => rfl); (case hg => rfl); (case hr => first | (go_simp; done) | (go_simp; rfl)); intro gb299 hg w23 hbox hb; have n0_ := Aside0.mk (Kd.R_below (Kd.R_elderB (by (with_reducible repeat (first | apply Kd.R_alloc | apply Kd.R_drewN | apply Kd.R_drew)); exact HO298.out) gb299 (Nat.le_of_eq hg.symm)) hb); have n1_ := Aside0.mk (below_step (by repeat (first | (with_reducible first | exact HB.out | apply below_alloc | apply pw_below_drewN | apply below_drew1) | exact HB.out)) hb); have n2_ := Aside0.mk (hbox); have n3_ := Aside0.mk ((by rw [hg]; exact (below_size (by repeat (first | (with_reducible first | exact HB.out | apply below_alloc | apply pw_below_drewN | apply below_drew1) | exact HB.out))) : w.heap.size ≤ gb299)); have n4_ := Aside0.mk ((by rw [hg]; exact (below_size (by repeat (first | (with_reducible first | exact HB.out | apply below_alloc | apply pw_below_drewN | apply below_drew1) | exact HB.out))) : w.heap.size ≤ gb299)); clear HO298; clear HB; have HO298 := n0_; have HB := n1_; have BK299 := n2_; have GW299 := n3_; have GE299 := n4_; clear n0_ n1_ n2_ n3_ n4_; clear hb hbox hg; have hcz24_0 : w23.cell? ⟨gb299, 0, none⟩ = some (.int .i64 0) := (blk_cell BK299.out 0).trans rfl; have hcz24_1 : w23.cell? ⟨gb299, 1, none⟩ = some (.int .i64 0) := (blk_cell BK299.out 1).trans rfl; have hcz24_2 : w23.cell? ⟨gb299, 2, none⟩ = some (.int .i64 0) := (blk_cell BK299.out 2).trans rfl; have hfz24_0 := blk_frozen BK299.out 0; have hfz24_1 := blk_frozen BK299.out 1; have hfz24_2 := blk_frozen BK299.out 2) | ((with_reducible refine gate_dst (N := 18) rfl ?_); (try (refine gate_guard (by rfl) ?_; dsimp only)); refine Kd.R_lit k32 _ 32 ?hg (N := 18) ?hd (xs := ([(⟨1, 5, 9⟩ : S32)] : List (S32))) (inner := [.int .i64 1, .int .i64 5, .int .i64 9]) (ok := fun _ => True) (okp := fun _ => True) ?hr ?hp (fun _ hk => hk) trivial (Below.refl _ _) (Nat.le_refl _) (by simp) ?_; (case hd => rfl); (case hg => rfl); (case hr => first | (go_simp; done) | (go_simp; rfl)); (case hp => exact (Reps.c3 (show Kd.M k32 _ _ _ (⟨1, 5, 9⟩ : S32) [.int .i64 1, .int .i64 5, .int .i64 9] from (k32_mkM _ _ _ (⟨1, 5, 9⟩ : S32) )) (Reps.none _ _))); intro v301 w25 ho26 hb hg_ hnew_; clear hg_ hnew_; (first | rw [← Ny300.out] at ho26 | (simp only [Int.reduceToNat] at ho26; rw [← Ny300.out] at ho26)); have n0_ := Aside0.mk (Kd.R_elder' (by (with_reducible repeat (first | apply Kd.R_alloc | apply Kd.R_drewN | apply Kd.R_drew)); exact (Kd.R_mono (Kd.R_far (p := ⟨gb299, 2, none⟩) (Kd.R_far (p := ⟨gb299, 1, none⟩) (Kd.R_far (p := ⟨gb299, 0, none⟩) (Kd.R_mono HO298.out (fun k_ hk => (⟨hk, hk.2⟩ : _ ∧ k_ ≠ gb299))) (fun _ hk => hk.2) (.int .i64 1)) (fun _ hk => hk.2) (.int .i64 5)) (fun _ hk => hk.2) (.int .i64 9)) (fun _ h_ => h_.1))) (Kd.R_base ho26) hb); have n1_ := Aside0.mk (Kd.R_lower (Kd.R_newB (Kd.R_new' ho26 (Kd.R_lt (by (with_reducible repeat (first | apply Kd.R_alloc | apply Kd.R_drewN | apply Kd.R_drew)); exact (Kd.R_mono (Kd.R_far (p := ⟨gb299, 2, none⟩) (Kd.R_far (p := ⟨gb299, 1, none⟩) (Kd.R_far (p := ⟨gb299, 0, none⟩) (Kd.R_mono HO298.out (fun k_ hk => (⟨hk, hk.2⟩ : _ ∧ k_ ≠ gb299))) (fun _ hk => hk.2) (.int .i64 1)) (fun _ hk => hk.2) (.int .i64 5)) (fun _ hk => hk.2) (.int .i64 9)) (fun _ h_ => h_.1))))) (g := gb299) (o := .cells #[.int .i64 1, .int .i64 5, .int .i64 9] 32 (0, 0)) (by (with_reducible repeat (first | refine blk_drewN ?_ _ | refine blk_drew ?_ | refine blk_alloc ?_ _)); refine blk_put (cs := #[.int .i64 1, .int .i64 5, .int .i64 0]) ?_ 2 _ rfl; (with_reducible repeat (first | refine blk_drewN ?_ _ | refine blk_drew ?_ | refine blk_alloc ?_ _)); refine blk_put (cs := #[.int .i64 1, .int .i64 0, .int .i64 0]) ?_ 1 _ rfl; (with_reducible repeat (first | refine blk_drewN ?_ _ | refine blk_drew ?_ | refine blk_alloc ?_ _)); refine blk_put (cs := #[.int .i64 0, .int .i64 0, .int .i64 0]) ?_ 0 _ rfl; (with_reducible repeat (first | refine blk_drewN ?_ _ | refine blk_drew ?_ | refine blk_alloc ?_ _)); exact BK299.out)) (below_size (by repeat (first | (with_reducible first | exact HB.out | apply below_alloc | apply pw_below_drewN | apply below_drew1 | refine below_set ?_ GE299.out) | exact HB.out)))); have n2_ := Aside0.mk (blk_below (g := gb299) (o := .cells #[.int .i64 1, .int .i64 5, .int .i64 9] 32 (0, 0)) (by (with_reducible repeat (first | refine blk_drewN ?_ _ | refine blk_drew ?_ | refine blk_alloc ?_ _)); refine blk_put (cs := #[.int .i64 1, .int .i64 5, .int .i64 0]) ?_ 2 _ rfl; (with_reducible repeat (first | refine blk_drewN ?_ _ | refine blk_drew ?_ | refine blk_alloc ?_ _)); refine blk_put (cs := #[.int .i64 1, .int .i64 0, .int .i64 0]) ?_ 1 _ rfl; (with_reducible repeat (first | refine blk_drewN ?_ _ | refine blk_drew ?_ | refine blk_alloc ?_ _)); refine blk_put (cs := #[.int .i64 0, .int .i64 0, .int .i64 0]) ?_ 0 _ rfl; (with_reducible repeat (first | refine blk_drewN ?_ _ | refine blk_drew ?_ | refine blk_alloc ?_ _)); exact BK299.out) hb); have n3_ := Aside0.mk (below_step (by repeat (first | (with_reducible first | exact HB.out | apply below_alloc | apply pw_below_drewN | apply below_drew1 | refine below_set ?_ GE299.out) | exact HB.out)) hb); clear HO298; clear BK299; clear HB; have HO298 := n0_; have HO302 := n1_; have BK299 := n2_; have HB := n3_; clear n0_ n1_ n2_ n3_; clear hb ho26; obtain ⟨Ao27, co27, eo27⟩ := Kd.R_slice HO298.out; subst eo27; obtain ⟨Ao28, co28, eo28⟩ := Kd.R_slice HO302.out; subst eo28) | ((with_reducible refine gate_callee (f := 12) rfl ?_); refine goesL_ (some 19) rfl rfl Try.func12 (by kernel_rfl) rfl #[.slice Ao27 y296.length co27, .slice Ao28 y300.length co28] rfl (by (try simp only [List.map_toArray, List.map_cons, List.map_nil]); first | done | rfl | (simp only [List.length_drop, List.length_take]; rfl)) ?_; (with_reducible refine (mute_Add.calls k _ _ y296 _ _ y300 t303 t304 _ ?side1 ?side2 ?side3 ?side4 A1.out).mono ?_); (case side1 => repeat (first | exact (Kd.R_reads' HO298.out).2.2 | (with_reducible refine Kd.C_alloc ?_ _) | (with_reducible refine Kd.C_drewN ?_ _) | (with_reducible refine Kd.C_drew ?_))); (case side2 => exact (Kd.R_reads' HO298.out).2.1); (case side3 => repeat (first | exact (Kd.R_reads' HO302.out).2.2 | (with_reducible refine Kd.C_alloc ?_ _) | (with_reducible refine Kd.C_drewN ?_ _) | (with_reducible refine Kd.C_drew ?_))); (case side4 => exact (Kd.R_reads' HO302.out).2.1); rintro e w29 ⟨v305, rfl, ho0, hb⟩; refine ⟨_, rfl, ?_⟩; have n0_ := Aside0.mk (Kd.R_elder' (by (with_reducible repeat (first | apply Kd.R_alloc | apply Kd.R_drewN | apply Kd.R_drew)); exact HO298.out) (Kd.R_base ho0) hb); have n1_ := Aside0.mk (Kd.R_elder' (by (with_reducible repeat (first | apply Kd.R_alloc | apply Kd.R_drewN | apply Kd.R_drew)); exact HO302.out) (Kd.R_base ho0) hb); have n2_ := Aside0.mk (Kd.R_lower (Kd.R_newB (Kd.R_new' (Kd.R_new' ho0 (Kd.R_lt (by (with_reducible repeat (first | apply Kd.R_alloc | apply Kd.R_drewN | apply Kd.R_drew)); exact HO298.out))) (Kd.R_lt (by (with_reducible repeat (first | apply Kd.R_alloc | apply Kd.R_drewN | apply Kd.R_drew)); exact HO302.out))) (g := gb299) (o := .cells #[.int .i64 1, .int .i64 5, .int .i64 9] 32 (0, 0)) (by (with_reducible repeat (first | refine blk_drewN ?_ _ | refine blk_drew ?_ | refine blk_alloc ?_ _)); exact BK299.out)) (below_size (by repeat (first | (with_reducible first | exact HB.out | apply below_alloc | apply pw_below_drewN | apply below_drew1 | refine below_set ?_ GE299.out) | exact HB.out)))); have n3_ := Aside0.mk (blk_below (g := gb299) (o := .cells #[.int .i64 1, .int .i64 5, .int .i64 9] 32 (0, 0)) (by (with_reducible repeat (first | refine blk_drewN ?_ _ | refine blk_drew ?_ | refine blk_alloc ?_ _)); exact BK299.out) hb); have n4_ := Aside0.mk (below_step (by repeat (first | (with_reducible first | exact HB.out | apply below_alloc | apply pw_below_drewN | apply below_drew1 | refine below_set ?_ GE299.out) | exact HB.out)) hb); clear HO298; clear HO302; clear BK299; clear HB; have HO298 := n0_; have HO302 := n1_; have HO306 := n2_; have BK299 := n3_; have HB := n4_; clear n0_ n1_ n2_ n3_ n4_; (try clear hb); (try clear hb2); (try clear hk); (try clear hi); (try clear ho0); have hcz30_0 : w29.cell? ⟨gb299, 0, none⟩ = some (.int .i64 1) := (blk_cell BK299.out 0).trans rfl; have hcz30_1 : w29.cell? ⟨gb299, 1, none⟩ = some (.int .i64 5) := (blk_cell BK299.out 1).trans rfl; have hcz30_2 : w29.cell? ⟨gb299, 2, none⟩ = some (.int .i64 9) := (blk_cell BK299.out 2).trans rfl; have hfz30_0 := blk_frozen BK299.out 0; have hfz30_1 := blk_frozen BK299.out 1; have hfz30_2 := blk_frozen BK299.out 2) | ((with_reducible refine gate_dst (N := 25) rfl ?_); (try (refine gate_guard (by rfl) ?_; dsimp only)); refine Kd.R_lit k32 _ 32 ?hg (N := 25) ?hd (xs := ([(⟨1, 5, 9⟩ : S32)] : List (S32))) (inner := [.int .i64 1, .int .i64 5, .int .i64 9]) (ok := fun _ => True) (okp := fun _ => True) ?hr ?hp (fun _ hk => hk) trivial (Below.refl _ _) (Nat.le_refl _) (by simp) ?_; (case hd => rfl); (case hg => rfl); (case hr => first | (go_simp; done) | (go_simp; rfl)); (case hp => exact (Reps.c3 (show Kd.M k32 _ _ _ (⟨1, 5, 9⟩ : S32) [.int .i64 1, .int .i64 5, .int .i64 9] from (k32_mkM _ _ _ (⟨1, 5, 9⟩ : S32) )) (Reps.none _ _))); intro v308 w31 ho32 hb hg_ hnew_; clear hg_ hnew_; (first | rw [← Ny307.out] at ho32 | (simp only [Int.reduceToNat] at ho32; rw [← Ny307.out] at ho32)); have n0_ := Aside0.mk (Kd.R_elder' (by (with_reducible repeat (first | apply Kd.R_alloc | apply Kd.R_drewN | apply Kd.R_drew)); exact HO298.out) (Kd.R_base ho32) hb); have n1_ := Aside0.mk (Kd.R_elder' (by (with_reducible repeat (first | apply Kd.R_alloc | apply Kd.R_drewN | apply Kd.R_drew)); exact HO302.out) (Kd.R_base ho32) hb); have n2_ := Aside0.mk (Kd.R_elder' (by (with_reducible repeat (first | apply Kd.R_alloc | apply Kd.R_drewN | apply Kd.R_drew)); exact HO306.out) (Kd.R_base ho32) hb); have n3_ := Aside0.mk (Kd.R_lower (Kd.R_newB (Kd.R_new' (Kd.R_new' (Kd.R_new' ho32 (Kd.R_lt (by (with_reducible repeat (first | apply Kd.R_alloc | apply Kd.R_drewN | apply Kd.R_drew)); exact HO298.out))) (Kd.R_lt (by (with_reducible repeat (first | apply Kd.R_alloc | apply Kd.R_drewN | apply Kd.R_drew)); exact HO302.out))) (Kd.R_lt (by (with_reducible repeat (first | apply Kd.R_alloc | apply Kd.R_drewN | apply Kd.R_drew)); exact HO306.out))) (g := gb299) (o := .cells #[.int .i64 1, .int .i64 5, .int .i64 9] 32 (0, 0)) (by (with_reducible repeat (first | refine blk_drewN ?_ _ | refine blk_drew ?_ | refine blk_alloc ?_ _)); exact BK299.out)) (below_size (by repeat (first | (with_reducible first | exact HB.out | apply below_alloc | apply pw_below_drewN | apply below_drew1 | refine below_set ?_ GE299.out) | exact HB.out)))); have n4_ := Aside0.mk (blk_below (g := gb299) (o := .cells #[.int .i64 1, .int .i64 5, .int .i64 9] 32 (0, 0)) (by (with_reducible repeat (first | refine blk_drewN ?_ _ | refine blk_drew ?_ | refine blk_alloc ?_ _)); exact BK299.out) hb); have n5_ := Aside0.mk (below_step (by repeat (first | (with_reducible first | exact HB.out | apply below_alloc | apply pw_below_drewN | apply below_drew1 | refine below_set ?_ GE299.out) | exact HB.out)) hb); clear HO298; clear HO302; clear HO306; clear BK299; clear HB; have HO298 := n0_; have HO302 := n1_; have HO306 := n2_; have HO309 := n3_; have BK299 := n4_; have HB := n5_; clear n0_ n1_ n2_ n3_ n4_ n5_; clear hb ho32; obtain ⟨Ao33, co33, eo33⟩ := Kd.R_slice HO309.out; subst eo33) | ((with_reducible refine gate_callee (f := 14) rfl ?_); refine goesL_ (some 26) rfl rfl Try.func14 (by kernel_rfl) rfl #[.slice Ao27 y296.length co27, .slice Ao33 y307.length co33] rfl (by (try simp only [List.map_toArray, List.map_cons, List.map_nil]); first | done | rfl | (simp only [List.length_drop, List.length_take]; rfl)) ?_; (with_reducible refine (mute_Cut.calls k _ _ y296 _ _ y307 t310 t311 _ ?side1 ?side2 ?side3 ?side4 A2.out).mono ?_); (case side1 => repeat (first | exact (Kd.R_reads' HO298.out).2.2 | (with_reducible refine Kd.C_alloc ?_ _) | (with_reducible refine Kd.C_drewN ?_ _) | (with_reducible refine Kd.C_drew ?_))); (case side2 => exact (Kd.R_reads' HO298.out).2.1); (case side3 => repeat (first | exact (Kd.R_reads' HO309.out).2.2 | (with_reducible refine Kd.C_alloc ?_ _) | (with_reducible refine Kd.C_drewN ?_ _) | (with_reducible refine Kd.C_drew ?_))); (case side4 => exact (Kd.R_reads' HO309.out).2.1); rintro e w34 ⟨v312, rfl, ho0, hb⟩; refine ⟨_, rfl, ?_⟩; have n0_ := Aside0.mk (Kd.R_elder' (by (with_reducible repeat (first | apply Kd.R_alloc | apply Kd.R_drewN | apply Kd.R_drew)); exact HO298.out) (Kd.R_base ho0) hb); have n1_ := Aside0.mk (Kd.R_elder' (by (with_reducible repeat (first | apply Kd.R_alloc | apply Kd.R_drewN | apply Kd.R_drew)); exact HO302.out) (Kd.R_base ho0) hb); have n2_ := Aside0.mk (Kd.R_elder' (by (with_reducible repeat (first | apply Kd.R_alloc | apply Kd.R_drewN | apply Kd.R_drew)); exact HO306.out) (Kd.R_base ho0) hb); have n3_ := Aside0.mk (Kd.R_elder' (by (with_reducible repeat (first | apply Kd.R_alloc | apply Kd.R_drewN | apply Kd.R_drew)); exact HO309.out) (Kd.R_base ho0) hb); have n4_ := Aside0.mk (Kd.R_lower (Kd.R_newB (Kd.R_new' (Kd.R_new' (Kd.R_new' (Kd.R_new' ho0 (Kd.R_lt (by (with_reducible repeat (first | apply Kd.R_alloc | apply Kd.R_drewN | apply Kd.R_drew)); exact HO298.out))) (Kd.R_lt (by (with_reducible repeat (first | apply Kd.R_alloc | apply Kd.R_drewN | apply Kd.R_drew)); exact HO302.out))) (Kd.R_lt (by (with_reducible repeat (first | apply Kd.R_alloc | apply Kd.R_drewN | apply Kd.R_drew)); exact HO306.out))) (Kd.R_lt (by (with_reducible repeat (first | apply Kd.R_alloc | apply Kd.R_drewN | apply Kd.R_drew)); exact HO309.out))) (g := gb299) (o := .cells #[.int .i64 1, .int .i64 5, .int .i64 9] 32 (0, 0)) (by (with_reducible repeat (first | refine blk_drewN ?_ _ | refine blk_drew ?_ | refine blk_alloc ?_ _)); exact BK299.out)) (below_size (by repeat (first | (with_reducible first | exact HB.out | apply below_alloc | apply pw_below_drewN | apply below_drew1 | refine below_set ?_ GE299.out) | exact HB.out)))); have n5_ := Aside0.mk (blk_below (g := gb299) (o := .cells #[.int .i64 1, .int .i64 5, .int .i64 9] 32 (0, 0)) (by (with_reducible repeat (first | refine blk_drewN ?_ _ | refine blk_drew ?_ | refine blk_alloc ?_ _)); exact BK299.out) hb); have n6_ := Aside0.mk (below_step (by repeat (first | (with_reducible first | exact HB.out | apply below_alloc | apply pw_below_drewN | apply below_drew1 | refine below_set ?_ GE299.out) | exact HB.out)) hb); clear HO298; clear HO302; clear HO306; clear HO309; clear BK299; clear HB; have HO298 := n0_; have HO302 := n1_; have HO306 := n2_; have HO309 := n3_; have HO313 := n4_; have BK299 := n5_; have HB := n6_; clear n0_ n1_ n2_ n3_ n4_ n5_ n6_; (try clear hb); (try clear hb2); (try clear hk); (try clear hi); (try clear ho0)) | ((with_reducible refine gate_dst (N := 32) rfl ?_); (try (refine gate_guard (by rfl) ?_; dsimp only)); refine Kd.R_lit k32 _ 32 ?hg (N := 32) ?hd (xs := ([(⟨0, 0, 0⟩ : S32)] : List (S32))) (inner := [.int .i64 0, .int .i64 0, .int .i64 0]) (ok := fun _ => True) (okp := fun _ => True) ?hr ?hp (fun _ hk => hk) trivial (Below.refl _ _) (Nat.le_refl _) (by simp) ?_; (case hd => rfl); (case hg => rfl); (case hr => first | (go_simp; done) | (go_simp; rfl)); (case hp => exact (Reps.c3 (show Kd.M k32 _ _ _ (⟨0, 0, 0⟩ : S32) [.int .i64 0, .int .i64 0, .int .i64 0] from (k32_mkM _ _ _ (⟨0, 0, 0⟩ : S32) )) (Reps.none _ _))); intro v315 w35 ho36 hb hg_ hnew_; clear hg_ hnew_; (first | rw [← Ny314.out] at ho36 | (simp only [Int.reduceToNat] at ho36; rw [← Ny314.out] at ho36)); have n0_ := Aside0.mk (Kd.R_elder' (by (with_reducible repeat (first | apply Kd.R_alloc | apply Kd.R_drewN | apply Kd.R_drew)); exact HO298.out) (Kd.R_base ho36) hb); have n1_ := Aside0.mk (Kd.R_elder' (by (with_reducible repeat (first | apply Kd.R_alloc | apply Kd.R_drewN | apply Kd.R_drew)); exact HO302.out) (Kd.R_base ho36) hb); have n2_ := Aside0.mk (Kd.R_elder' (by (with_reducible repeat (first | apply Kd.R_alloc | apply Kd.R_drewN | apply Kd.R_drew)); exact HO306.out) (Kd.R_base ho36) hb); have n3_ := Aside0.mk (Kd.R_elder' (by (with_reducible repeat (first | apply Kd.R_alloc | apply Kd.R_drewN | apply Kd.R_drew)); exact HO309.out) (Kd.R_base ho36) hb); have n4_ := Aside0.mk (Kd.R_elder' (by (with_reducible repeat (first | apply Kd.R_alloc | apply Kd.R_drewN | apply Kd.R_drew)); exact HO313.out) (Kd.R_base ho36) hb); have n5_ := Aside0.mk (Kd.R_lower (Kd.R_newB (Kd.R_new' (Kd.R_new' (Kd.R_new' (Kd.R_new' (Kd.R_new' ho36 (Kd.R_lt (by (with_reducible repeat (first | apply Kd.R_alloc | apply Kd.R_drewN | apply Kd.R_drew)); exact HO298.out))) (Kd.R_lt (by (with_reducible repeat (first | apply Kd.R_alloc | apply Kd.R_drewN | apply Kd.R_drew)); exact HO302.out))) (Kd.R_lt (by (with_reducible repeat (first | apply Kd.R_alloc | apply Kd.R_drewN | apply Kd.R_drew)); exact HO306.out))) (Kd.R_lt (by (with_reducible repeat (first | apply Kd.R_alloc | apply Kd.R_drewN | apply Kd.R_drew)); exact HO309.out))) (Kd.R_lt (by (with_reducible repeat (first | apply Kd.R_alloc | apply Kd.R_drewN | apply Kd.R_drew)); exact HO313.out))) (g := gb299) (o := .cells #[.int .i64 1, .int .i64 5, .int .i64 9] 32 (0, 0)) (by (with_reducible repeat (first | refine blk_drewN ?_ _ | refine blk_drew ?_ | refine blk_alloc ?_ _)); exact BK299.out)) (below_size (by repeat (first | (with_reducible first | exact HB.out | apply below_alloc | apply pw_below_drewN | apply below_drew1 | refine below_set ?_ GE299.out) | exact HB.out)))); have n6_ := Aside0.mk (blk_below (g := gb299) (o := .cells #[.int .i64 1, .int .i64 5, .int .i64 9] 32 (0, 0)) (by (with_reducible repeat (first | refine blk_drewN ?_ _ | refine blk_drew ?_ | refine blk_alloc ?_ _)); exact BK299.out) hb); have n7_ := Aside0.mk (below_step (by repeat (first | (with_reducible first | exact HB.out | apply below_alloc | apply pw_below_drewN | apply below_drew1 | refine below_set ?_ GE299.out) | exact HB.out)) hb); clear HO298; clear HO302; clear HO306; clear HO309; clear HO313; clear BK299; clear HB; have HO298 := n0_; have HO302 := n1_; have HO306 := n2_; have HO309 := n3_; have HO313 := n4_; have HO316 := n5_; have BK299 := n6_; have HB := n7_; clear n0_ n1_ n2_ n3_ n4_ n5_ n6_ n7_; clear hb ho36; obtain ⟨Ao37, co37, eo37⟩ := Kd.R_slice HO316.out; subst eo37) | ((with_reducible refine gate_callee (f := 12) rfl ?_); refine goesL_ (some 33) rfl rfl Try.func12 (by kernel_rfl) rfl #[.slice Ao27 y296.length co27, .slice Ao37 y314.length co37] rfl (by (try simp only [List.map_toArray, List.map_cons, List.map_nil]); first | done | rfl | (simp only [List.length_drop, List.length_take]; rfl)) ?_; (with_reducible refine (mute_Add.calls k _ _ y296 _ _ y314 t317 t318 _ ?side1 ?side2 ?side3 ?side4 A3.out).mono ?_); (case side1 => repeat (first | exact (Kd.R_reads' HO298.out).2.2 | (with_reducible refine Kd.C_alloc ?_ _) | (with_reducible refine Kd.C_drewN ?_ _) | (with_reducible refine Kd.C_drew ?_))); (case side2 => exact (Kd.R_reads' HO298.out).2.1); (case side3 => repeat (first | exact (Kd.R_reads' HO316.out).2.2 | (with_reducible refine Kd.C_alloc ?_ _) | (with_reducible refine Kd.C_drewN ?_ _) | (with_reducible refine Kd.C_drew ?_))); (case side4 => exact (Kd.R_reads' HO316.out).2.1); rintro e w38 ⟨v319, rfl, ho0, hb⟩; refine ⟨_, rfl, ?_⟩; have n0_ := Aside0.mk (Kd.R_elder' (by (with_reducible repeat (first | apply Kd.R_alloc | apply Kd.R_drewN | apply Kd.R_drew)); exact HO298.out) (Kd.R_base ho0) hb); have n1_ := Aside0.mk (Kd.R_elder' (by (with_reducible repeat (first | apply Kd.R_alloc | apply Kd.R_drewN | apply Kd.R_drew)); exact HO302.out) (Kd.R_base ho0) hb); have n2_ := Aside0.mk (Kd.R_elder' (by (with_reducible repeat (first | apply Kd.R_alloc | apply Kd.R_drewN | apply Kd.R_drew)); exact HO306.out) (Kd.R_base ho0) hb); have n3_ := Aside0.mk (Kd.R_elder' (by (with_reducible repeat (first | apply Kd.R_alloc | apply Kd.R_drewN | apply Kd.R_drew)); exact HO309.out) (Kd.R_base ho0) hb); have n4_ := Aside0.mk (Kd.R_elder' (by (with_reducible repeat (first | apply Kd.R_alloc | apply Kd.R_drewN | apply Kd.R_drew)); exact HO313.out) (Kd.R_base ho0) hb); have n5_ := Aside0.mk (Kd.R_elder' (by (with_reducible repeat (first | apply Kd.R_alloc | apply Kd.R_drewN | apply Kd.R_drew)); exact HO316.out) (Kd.R_base ho0) hb); have n6_ := Aside0.mk (Kd.R_lower (Kd.R_newB (Kd.R_new' (Kd.R_new' (Kd.R_new' (Kd.R_new' (Kd.R_new' (Kd.R_new' ho0 (Kd.R_lt (by (with_reducible repeat (first | apply Kd.R_alloc | apply Kd.R_drewN | apply Kd.R_drew)); exact HO298.out))) (Kd.R_lt (by (with_reducible repeat (first | apply Kd.R_alloc | apply Kd.R_drewN | apply Kd.R_drew)); exact HO302.out))) (Kd.R_lt (by (with_reducible repeat (first | apply Kd.R_alloc | apply Kd.R_drewN | apply Kd.R_drew)); exact HO306.out))) (Kd.R_lt (by (with_reducible repeat (first | apply Kd.R_alloc | apply Kd.R_drewN | apply Kd.R_drew)); exact HO309.out))) (Kd.R_lt (by (with_reducible repeat (first | apply Kd.R_alloc | apply Kd.R_drewN | apply Kd.R_drew)); exact HO313.out))) (Kd.R_lt (by (with_reducible repeat (first | apply Kd.R_alloc | apply Kd.R_drewN | apply Kd.R_drew)); exact HO316.out))) (g := gb299) (o := .cells #[.int .i64 1, .int .i64 5, .int .i64 9] 32 (0, 0)) (by (with_reducible repeat (first | refine blk_drewN ?_ _ | refine blk_drew ?_ | refine blk_alloc ?_ _)); exact BK299.out)) (below_size (by repeat (first | (with_reducible first | exact HB.out | apply below_alloc | apply pw_below_drewN | apply below_drew1 | refine below_set ?_ GE299.out) | exact HB.out)))); have n7_ := Aside0.mk (blk_below (g := gb299) (o := .cells #[.int .i64 1, .int .i64 5, .int .i64 9] 32 (0, 0)) (by (with_reducible repeat (first | refine blk_drewN ?_ _ | refine blk_drew ?_ | refine blk_alloc ?_ _)); exact BK299.out) hb); have n8_ := Aside0.mk (below_step (by repeat (first | (with_reducible first | exact HB.out | apply below_alloc | apply pw_below_drewN | apply below_drew1 | refine below_set ?_ GE299.out) | exact HB.out)) hb); clear HO298; clear HO302; clear HO306; clear HO309; clear HO313; clear HO316; clear BK299; clear HB; have HO298 := n0_; have HO302 := n1_; have HO306 := n2_; have HO309 := n3_; have HO313 := n4_; have HO316 := n5_; have HO320 := n6_; have BK299 := n7_; have HB := n8_; clear n0_ n1_ n2_ n3_ n4_ n5_ n6_ n7_ n8_; (try clear hb); (try clear hb2); (try clear hk); (try clear hi); (try clear ho0)) | ((with_reducible refine gate_callee (f := 16) rfl ?_); refine goesL_ (some 38) rfl rfl Try.func16 (by kernel_rfl) rfl #[.slice Ao27 y296.length co27, .int .i64 1, .int .i64 7] rfl (by (try simp only [List.map_toArray, List.map_cons, List.map_nil]); first | done | rfl | (simp only [List.length_drop, List.length_take]; rfl)) ?_; (with_reducible refine (mute_Till.calls _ _ y296 1 7 t321 true _ ?side1 ?side2 A4.out).mono ?_); (case side1 => repeat (first | exact (Kd.R_reads' HO298.out).2.2 | (with_reducible refine Kd.C_alloc ?_ _) | (with_reducible refine Kd.C_drewN ?_ _) | (with_reducible refine Kd.C_drew ?_))); (case side2 => exact (Kd.R_reads' HO298.out).2.1); rintro e w39 ⟨rfl, hb⟩; refine ⟨_, rfl, ?_⟩; have n0_ := Aside0.mk (Kd.R_below (by (with_reducible repeat (first | apply Kd.R_alloc | apply Kd.R_drewN | apply Kd.R_drew)); exact HO298.out) hb); have n1_ := Aside0.mk (Kd.R_below (by (with_reducible repeat (first | apply Kd.R_alloc | apply Kd.R_drewN | apply Kd.R_drew)); exact HO302.out) hb); have n2_ := Aside0.mk (Kd.R_below (by (with_reducible repeat (first | apply Kd.R_alloc | apply Kd.R_drewN | apply Kd.R_drew)); exact HO306.out) hb); have n3_ := Aside0.mk (Kd.R_below (by (with_reducible repeat (first | apply Kd.R_alloc | apply Kd.R_drewN | apply Kd.R_drew)); exact HO309.out) hb); have n4_ := Aside0.mk (Kd.R_below (by (with_reducible repeat (first | apply Kd.R_alloc | apply Kd.R_drewN | apply Kd.R_drew)); exact HO313.out) hb); have n5_ := Aside0.mk (Kd.R_below (by (with_reducible repeat (first | apply Kd.R_alloc | apply Kd.R_drewN | apply Kd.R_drew)); exact HO316.out) hb); have n6_ := Aside0.mk (Kd.R_below (by (with_reducible repeat (first | apply Kd.R_alloc | apply Kd.R_drewN | apply Kd.R_drew)); exact HO320.out) hb); have n7_ := Aside0.mk (blk_below (g := gb299) (o := .cells #[.int .i64 1, .int .i64 5, .int .i64 9] 32 (0, 0)) (by (with_reducible repeat (first | refine blk_drewN ?_ _ | refine blk_drew ?_ | refine blk_alloc ?_ _)); exact BK299.out) hb); have n8_ := Aside0.mk (below_step (by repeat (first | (with_reducible first | exact HB.out | apply below_alloc | apply pw_below_drewN | apply below_drew1 | refine below_set ?_ GE299.out) | exact HB.out)) hb); clear HO298; clear HO302; clear HO306; clear HO309; clear HO313; clear HO316; clear HO320; clear BK299; clear HB; have HO298 := n0_; have HO302 := n1_; have HO306 := n2_; have HO309 := n3_; have HO313 := n4_; have HO316 := n5_; have HO320 := n6_; have BK299 := n7_; have HB := n8_; clear n0_ n1_ n2_ n3_ n4_ n5_ n6_ n7_ n8_; (try clear hb); (try clear hb2); (try clear hk); (try clear hi)) | ((with_reducible refine gate_dst (N := 46) rfl ?_); (try (refine gate_guard (by rfl) ?_; dsimp only)); refine Kd.R_lit k32 _ 32 ?hg (N := 46) ?hd (xs := ([(⟨1, 1, 20⟩ : S32)] : List (S32))) (inner := [.int .i64 1, .int .i64 1, .int .i64 20]) (ok := fun _ => True) (okp := fun _ => True) ?hr ?hp (fun _ hk => hk) trivial (Below.refl _ _) (Nat.le_refl _) (by simp) ?_; (case hd => rfl); (case hg => rfl); (case hr => first | (go_simp; done) | (go_simp; rfl)); (case hp => exact (Reps.c3 (show Kd.M k32 _ _ _ (⟨1, 1, 20⟩ : S32) [.int .i64 1, .int .i64 1, .int .i64 20] from (k32_mkM _ _ _ (⟨1, 1, 20⟩ : S32) )) (Reps.none _ _))); intro v324 w40 ho41 hb hg_ hnew_; clear hg_ hnew_; (first | rw [← Ny323.out] at ho41 | (simp only [Int.reduceToNat] at ho41; rw [← Ny323.out] at ho41)); have n0_ := Aside0.mk (Kd.R_elder' (by (with_reducible repeat (first | apply Kd.R_alloc | apply Kd.R_drewN | apply Kd.R_drew)); exact HO298.out) (Kd.R_base ho41) hb); have n1_ := Aside0.mk (Kd.R_elder' (by (with_reducible repeat (first | apply Kd.R_alloc | apply Kd.R_drewN | apply Kd.R_drew)); exact HO302.out) (Kd.R_base ho41) hb); have n2_ := Aside0.mk (Kd.R_elder' (by (with_reducible repeat (first | apply Kd.R_alloc | apply Kd.R_drewN | apply Kd.R_drew)); exact HO306.out) (Kd.R_base ho41) hb); have n3_ := Aside0.mk (Kd.R_elder' (by (with_reducible repeat (first | apply Kd.R_alloc | apply Kd.R_drewN | apply Kd.R_drew)); exact HO309.out) (Kd.R_base ho41) hb); have n4_ := Aside0.mk (Kd.R_elder' (by (with_reducible repeat (first | apply Kd.R_alloc | apply Kd.R_drewN | apply Kd.R_drew)); exact HO313.out) (Kd.R_base ho41) hb); have n5_ := Aside0.mk (Kd.R_elder' (by (with_reducible repeat (first | apply Kd.R_alloc | apply Kd.R_drewN | apply Kd.R_drew)); exact HO316.out) (Kd.R_base ho41) hb); have n6_ := Aside0.mk (Kd.R_elder' (by (with_reducible repeat (first | apply Kd.R_alloc | apply Kd.R_drewN | apply Kd.R_drew)); exact HO320.out) (Kd.R_base ho41) hb); have n7_ := Aside0.mk (Kd.R_lower (Kd.R_newB (Kd.R_new' (Kd.R_new' (Kd.R_new' (Kd.R_new' (Kd.R_new' (Kd.R_new' (Kd.R_new' ho41 (Kd.R_lt (by (with_reducible repeat (first | apply Kd.R_alloc | apply Kd.R_drewN | apply Kd.R_drew)); exact HO298.out))) (Kd.R_lt (by (with_reducible repeat (first | apply Kd.R_alloc | apply Kd.R_drewN | apply Kd.R_drew)); exact HO302.out))) (Kd.R_lt (by (with_reducible repeat (first | apply Kd.R_alloc | apply Kd.R_drewN | apply Kd.R_drew)); exact HO306.out))) (Kd.R_lt (by (with_reducible repeat (first | apply Kd.R_alloc | apply Kd.R_drewN | apply Kd.R_drew)); exact HO309.out))) (Kd.R_lt (by (with_reducible repeat (first | apply Kd.R_alloc | apply Kd.R_drewN | apply Kd.R_drew)); exact HO313.out))) (Kd.R_lt (by (with_reducible repeat (first | apply Kd.R_alloc | apply Kd.R_drewN | apply Kd.R_drew)); exact HO316.out))) (Kd.R_lt (by (with_reducible repeat (first | apply Kd.R_alloc | apply Kd.R_drewN | apply Kd.R_drew)); exact HO320.out))) (g := gb299) (o := .cells #[.int .i64 1, .int .i64 5, .int .i64 9] 32 (0, 0)) (by (with_reducible repeat (first | refine blk_drewN ?_ _ | refine blk_drew ?_ | refine blk_alloc ?_ _)); exact BK299.out)) (below_size (by repeat (first | (with_reducible first | exact HB.out | apply below_alloc | apply pw_below_drewN | apply below_drew1 | refine below_set ?_ GE299.out) | exact HB.out)))); have n8_ := Aside0.mk (blk_below (g := gb299) (o := .cells #[.int .i64 1, .int .i64 5, .int .i64 9] 32 (0, 0)) (by (with_reducible repeat (first | refine blk_drewN ?_ _ | refine blk_drew ?_ | refine blk_alloc ?_ _)); exact BK299.out) hb); have n9_ := Aside0.mk (below_step (by repeat (first | (with_reducible first | exact HB.out | apply below_alloc | apply pw_below_drewN | apply below_drew1 | refine below_set ?_ GE299.out) | exact HB.out)) hb); clear HO298; clear HO302; clear HO306; clear HO309; clear HO313; clear HO316; clear HO320; clear BK299; clear HB; have HO298 := n0_; have HO302 := n1_; have HO306 := n2_; have HO309 := n3_; have HO313 := n4_; have HO316 := n5_; have HO320 := n6_; have HO325 := n7_; have BK299 := n8_; have HB := n9_; clear n0_ n1_ n2_ n3_ n4_ n5_ n6_ n7_ n8_ n9_; clear hb ho41; obtain ⟨Ao42, co42, eo42⟩ := Kd.R_slice HO306.out; subst eo42; obtain ⟨Ao43, co43, eo43⟩ := Kd.R_slice HO325.out; subst eo43) | (go_at_call 18; (with_reducible refine (watchmanref10_Same.calls k _ _ t303 _ _ y323 true _ ?side1 ?side2 ?side3 ?side4 A6.out).mono ?_); (case side1 => repeat (first | exact (Kd.R_reads' HO306.out).2.2 | (with_reducible refine Kd.C_alloc ?_ _) | (with_reducible refine Kd.C_drewN ?_ _) | (with_reducible refine Kd.C_drew ?_))); (case side2 => exact (Kd.R_reads' HO306.out).2.1); (case side3 => repeat (first | exact (Kd.R_reads' HO325.out).2.2 | (with_reducible refine Kd.C_alloc ?_ _) | (with_reducible refine Kd.C_drewN ?_ _) | (with_reducible refine Kd.C_drew ?_))); (case side4 => exact (Kd.R_reads' HO325.out).2.1); rintro e w' ⟨rfl, ⟨nd, rfl⟩⟩) | ((with_reducible refine gate_dst (N := 58) rfl ?_); (try (refine gate_guard (by rfl) ?_; dsimp only)); refine Kd.R_lit k32 _ 32 ?hg (N := 58) ?hd (xs := ([(⟨1, 1, 5⟩ : S32), (⟨1, 9, 20⟩ : S32)] : List (S32))) (inner := [.int .i64 1, .int .i64 1, .int .i64 5, .int .i64 1, .int .i64 9, .int .i64 20]) (ok := fun _ => True) (okp := fun _ => True) ?hr ?hp (fun _ hk => hk) trivial (Below.refl _ _) (Nat.le_refl _) (by simp) ?_; (case hd => rfl); (case hg => rfl); (case hr => first | (go_simp; done) | (go_simp; rfl)); (case hp => exact (Reps.c3 (show Kd.M k32 _ _ _ (⟨1, 1, 5⟩ : S32) [.int .i64 1, .int .i64 1, .int .i64 5] from (k32_mkM _ _ _ (⟨1, 1, 5⟩ : S32) )) (Reps.c3 (show Kd.M k32 _ _ _ (⟨1, 9, 20⟩ : S32) [.int .i64 1, .int .i64 9, .int .i64 20] from (k32_mkM _ _ _ (⟨1, 9, 20⟩ : S32) )) (Reps.none _ _)))); intro v328 w44 ho45 hb hg_ hnew_; clear hg_ hnew_; (first | rw [← Ny327.out] at ho45 | (simp only [Int.reduceToNat] at ho45; rw [← Ny327.out] at ho45)); have n0_ := Aside0.mk (Kd.R_elder' (by (with_reducible repeat (first | apply Kd.R_alloc | apply Kd.R_drewN | apply Kd.R_drew)); exact HO298.out) (Kd.R_base ho45) hb); have n1_ := Aside0.mk (Kd.R_elder' (by (with_reducible repeat (first | apply Kd.R_alloc | apply Kd.R_drewN | apply Kd.R_drew)); exact HO302.out) (Kd.R_base ho45) hb); have n2_ := Aside0.mk (Kd.R_elder' (by (with_reducible repeat (first | apply Kd.R_alloc | apply Kd.R_drewN | apply Kd.R_drew)); exact HO306.out) (Kd.R_base ho45) hb); have n3_ := Aside0.mk (Kd.R_elder' (by (with_reducible repeat (first | apply Kd.R_alloc | apply Kd.R_drewN | apply Kd.R_drew)); exact HO309.out) (Kd.R_base ho45) hb); have n4_ := Aside0.mk (Kd.R_elder' (by (with_reducible repeat (first | apply Kd.R_alloc | apply Kd.R_drewN | apply Kd.R_drew)); exact HO313.out) (Kd.R_base ho45) hb); have n5_ := Aside0.mk (Kd.R_elder' (by (with_reducible repeat (first | apply Kd.R_alloc | apply Kd.R_drewN | apply Kd.R_drew)); exact HO316.out) (Kd.R_base ho45) hb); have n6_ := Aside0.mk (Kd.R_elder' (by (with_reducible repeat (first | apply Kd.R_alloc | apply Kd.R_drewN | apply Kd.R_drew)); exact HO320.out) (Kd.R_base ho45) hb); have n7_ := Aside0.mk (Kd.R_elder' (by (with_reducible repeat (first | apply Kd.R_alloc | apply Kd.R_drewN | apply Kd.R_drew)); exact HO325.out) (Kd.R_base ho45) hb); have n8_ := Aside0.mk (Kd.R_lower (Kd.R_newB (Kd.R_new' (Kd.R_new' (Kd.R_new' (Kd.R_new' (Kd.R_new' (Kd.R_new' (Kd.R_new' (Kd.R_new' ho45 (Kd.R_lt (by (with_reducible repeat (first | apply Kd.R_alloc | apply Kd.R_drewN | apply Kd.R_drew)); exact HO298.out))) (Kd.R_lt (by (with_reducible repeat (first | apply Kd.R_alloc | apply Kd.R_drewN | apply Kd.R_drew)); exact HO302.out))) (Kd.R_lt (by (with_reducible repeat (first | apply Kd.R_alloc | apply Kd.R_drewN | apply Kd.R_drew)); exact HO306.out))) (Kd.R_lt (by (with_reducible repeat (first | apply Kd.R_alloc | apply Kd.R_drewN | apply Kd.R_drew)); exact HO309.out))) (Kd.R_lt (by (with_reducible repeat (first | apply Kd.R_alloc | apply Kd.R_drewN | apply Kd.R_drew)); exact HO313.out))) (Kd.R_lt (by (with_reducible repeat (first | apply Kd.R_alloc | apply Kd.R_drewN | apply Kd.R_drew)); exact HO316.out))) (Kd.R_lt (by (with_reducible repeat (first | apply Kd.R_alloc | apply Kd.R_drewN | apply Kd.R_drew)); exact HO320.out))) (Kd.R_lt (by (with_reducible repeat (first | apply Kd.R_alloc | apply Kd.R_drewN | apply Kd.R_drew)); exact HO325.out))) (g := gb299) (o := .cells #[.int .i64 1, .int .i64 5, .int .i64 9] 32 (0, 0)) (by (with_reducible repeat (first | refine blk_drewN ?_ _ | refine blk_drew ?_ | refine blk_alloc ?_ _)); exact BK299.out)) (below_size (by repeat (first | (with_reducible first | exact HB.out | apply below_alloc | apply pw_below_drewN | apply below_drew1 | refine below_set ?_ GE299.out) | exact HB.out)))); have n9_ := Aside0.mk (blk_below (g := gb299) (o := .cells #[.int .i64 1, .int .i64 5, .int .i64 9] 32 (0, 0)) (by (with_reducible repeat (first | refine blk_drewN ?_ _ | refine blk_drew ?_ | refine blk_alloc ?_ _)); exact BK299.out) hb); have n10_ := Aside0.mk (below_step (by repeat (first | (with_reducible first | exact HB.out | apply below_alloc | apply pw_below_drewN | apply below_drew1 | refine below_set ?_ GE299.out) | exact HB.out)) hb); clear HO298; clear HO302; clear HO306; clear HO309; clear HO313; clear HO316; clear HO320; clear HO325; clear BK299; clear HB; have HO298 := n0_; have HO302 := n1_; have HO306 := n2_; have HO309 := n3_; have HO313 := n4_; have HO316 := n5_; have HO320 := n6_; have HO325 := n7_; have HO329 := n8_; have BK299 := n9_; have HB := n10_; clear n0_ n1_ n2_ n3_ n4_ n5_ n6_ n7_ n8_ n9_ n10_; clear hb ho45; obtain ⟨Ao46, co46, eo46⟩ := Kd.R_slice HO313.out; subst eo46; obtain ⟨Ao47, co47, eo47⟩ := Kd.R_slice HO329.out; subst eo47) | (go_at_call 18; (with_reducible refine (watchmanref10_Same.calls k _ _ t310 _ _ y327 true _ ?side1 ?side2 ?side3 ?side4 A9.out).mono ?_); (case side1 => repeat (first | exact (Kd.R_reads' HO313.out).2.2 | (with_reducible refine Kd.C_alloc ?_ _) | (with_reducible refine Kd.C_drewN ?_ _) | (with_reducible refine Kd.C_drew ?_))); (case side2 => exact (Kd.R_reads' HO313.out).2.1); (case side3 => repeat (first | exact (Kd.R_reads' HO329.out).2.2 | (with_reducible refine Kd.C_alloc ?_ _) | (with_reducible refine Kd.C_drewN ?_ _) | (with_reducible refine Kd.C_drew ?_))); (case side4 => exact (Kd.R_reads' HO329.out).2.1); rintro e w' ⟨rfl, ⟨nd, rfl⟩⟩) | (go_at_call 20; (with_reducible refine (mute_Is.calls k _ _ y296 true _ ?side1 ?side2 A14.out).mono ?_); (case side1 => repeat (first | exact (Kd.R_reads' HO298.out).2.2 | (with_reducible refine Kd.C_alloc ?_ _) | (with_reducible refine Kd.C_drewN ?_ _) | (with_reducible refine Kd.C_drew ?_))); (case side2 => exact (Kd.R_reads' HO298.out).2.1); rintro e w48 ⟨rfl, hb⟩; have n0_ := Aside0.mk (Kd.R_below (by (with_reducible repeat (first | apply Kd.R_alloc | apply Kd.R_drewN | apply Kd.R_drew)); exact HO298.out) hb); have n1_ := Aside0.mk (Kd.R_below (by (with_reducible repeat (first | apply Kd.R_alloc | apply Kd.R_drewN | apply Kd.R_drew)); exact HO302.out) hb); have n2_ := Aside0.mk (Kd.R_below (by (with_reducible repeat (first | apply Kd.R_alloc | apply Kd.R_drewN | apply Kd.R_drew)); exact HO306.out) hb); have n3_ := Aside0.mk (Kd.R_below (by (with_reducible repeat (first | apply Kd.R_alloc | apply Kd.R_drewN | apply Kd.R_drew)); exact HO309.out) hb); have n4_ := Aside0.mk (Kd.R_below (by (with_reducible repeat (first | apply Kd.R_alloc | apply Kd.R_drewN | apply Kd.R_drew)); exact HO313.out) hb); have n5_ := Aside0.mk (Kd.R_below (by (with_reducible repeat (first | apply Kd.R_alloc | apply Kd.R_drewN | apply Kd.R_drew)); exact HO316.out) hb); have n6_ := Aside0.mk (Kd.R_below (by (with_reducible repeat (first | apply Kd.R_alloc | apply Kd.R_drewN | apply Kd.R_drew)); exact HO320.out) hb); have n7_ := Aside0.mk (Kd.R_below (by (with_reducible repeat (first | apply Kd.R_alloc | apply Kd.R_drewN | apply Kd.R_drew)); exact HO325.out) hb); have n8_ := Aside0.mk (Kd.R_below (by (with_reducible repeat (first | apply Kd.R_alloc | apply Kd.R_drewN | apply Kd.R_drew)); exact HO329.out) hb); have n9_ := Aside0.mk (blk_below (g := gb299) (o := .cells #[.int .i64 1, .int .i64 5, .int .i64 9] 32 (0, 0)) (by (with_reducible repeat (first | refine blk_drewN ?_ _ | refine blk_drew ?_ | refine blk_alloc ?_ _)); exact BK299.out) hb); have n10_ := Aside0.mk (below_step (by repeat (first | (with_reducible first | exact HB.out | apply below_alloc | apply pw_below_drewN | apply below_drew1 | refine below_set ?_ GE299.out) | exact HB.out)) hb); clear HO298; clear HO302; clear HO306; clear HO309; clear HO313; clear HO316; clear HO320; clear HO325; clear HO329; clear BK299; clear HB; have HO298 := n0_; have HO302 := n1_; have HO306 := n2_; have HO309 := n3_; have HO313 := n4_; have HO316 := n5_; have HO320 := n6_; have HO325 := n7_; have HO329 := n8_; have BK299 := n9_; have HB := n10_; clear n0_ n1_ n2_ n3_ n4_ n5_ n6_ n7_ n8_ n9_ n10_; (try clear hb); (try clear hb2); (try clear hk); (try clear hi)) | (go_at_call 22; (with_reducible refine (mute_Has.calls _ _ y296 1 4 true _ ?side1 ?side2 A16.out).mono ?_); (case side1 => repeat (first | exact (Kd.R_reads' HO298.out).2.2 | (with_reducible refine Kd.C_alloc ?_ _) | (with_reducible refine Kd.C_drewN ?_ _) | (with_reducible refine Kd.C_drew ?_))); (case side2 => exact (Kd.R_reads' HO298.out).2.1); rintro e w49 ⟨rfl, hb⟩; have n0_ := Aside0.mk (Kd.R_below (by (with_reducible repeat (first | apply Kd.R_alloc | apply Kd.R_drewN | apply Kd.R_drew)); exact HO298.out) hb); have n1_ := Aside0.mk (Kd.R_below (by (with_reducible repeat (first | apply Kd.R_alloc | apply Kd.R_drewN | apply Kd.R_drew)); exact HO302.out) hb); have n2_ := Aside0.mk (Kd.R_below (by (with_reducible repeat (first | apply Kd.R_alloc | apply Kd.R_drewN | apply Kd.R_drew)); exact HO306.out) hb); have n3_ := Aside0.mk (Kd.R_below (by (with_reducible repeat (first | apply Kd.R_alloc | apply Kd.R_drewN | apply Kd.R_drew)); exact HO309.out) hb); have n4_ := Aside0.mk (Kd.R_below (by (with_reducible repeat (first | apply Kd.R_alloc | apply Kd.R_drewN | apply Kd.R_drew)); exact HO313.out) hb); have n5_ := Aside0.mk (Kd.R_below (by (with_reducible repeat (first | apply Kd.R_alloc | apply Kd.R_drewN | apply Kd.R_drew)); exact HO316.out) hb); have n6_ := Aside0.mk (Kd.R_below (by (with_reducible repeat (first | apply Kd.R_alloc | apply Kd.R_drewN | apply Kd.R_drew)); exact HO320.out) hb); have n7_ := Aside0.mk (Kd.R_below (by (with_reducible repeat (first | apply Kd.R_alloc | apply Kd.R_drewN | apply Kd.R_drew)); exact HO325.out) hb); have n8_ := Aside0.mk (Kd.R_below (by (with_reducible repeat (first | apply Kd.R_alloc | apply Kd.R_drewN | apply Kd.R_drew)); exact HO329.out) hb); have n9_ := Aside0.mk (blk_below (g := gb299) (o := .cells #[.int .i64 1, .int .i64 5, .int .i64 9] 32 (0, 0)) (by (with_reducible repeat (first | refine blk_drewN ?_ _ | refine blk_drew ?_ | refine blk_alloc ?_ _)); exact BK299.out) hb); have n10_ := Aside0.mk (below_step (by repeat (first | (with_reducible first | exact HB.out | apply below_alloc | apply pw_below_drewN | apply below_drew1 | refine below_set ?_ GE299.out) | exact HB.out)) hb); clear HO298; clear HO302; clear HO306; clear HO309; clear HO313; clear HO316; clear HO320; clear HO325; clear HO329; clear BK299; clear HB; have HO298 := n0_; have HO302 := n1_; have HO306 := n2_; have HO309 := n3_; have HO313 := n4_; have HO316 := n5_; have HO320 := n6_; have HO325 := n7_; have HO329 := n8_; have BK299 := n9_; have HB := n10_; clear n0_ n1_ n2_ n3_ n4_ n5_ n6_ n7_ n8_ n9_ n10_; (try clear hb); (try clear hb2); (try clear hk); (try clear hi)) | (go_at_call 22; (with_reducible refine (mute_Has.calls _ _ y296 1 5 false _ ?side1 ?side2 A18.out).mono ?_); (case side1 => repeat (first | exact (Kd.R_reads' HO298.out).2.2 | (with_reducible refine Kd.C_alloc ?_ _) | (with_reducible refine Kd.C_drewN ?_ _) | (with_reducible refine Kd.C_drew ?_))); (case side2 => exact (Kd.R_reads' HO298.out).2.1); rintro e w50 ⟨rfl, hb⟩; have n0_ := Aside0.mk (Kd.R_below (by (with_reducible repeat (first | apply Kd.R_alloc | apply Kd.R_drewN | apply Kd.R_drew)); exact HO298.out) hb); have n1_ := Aside0.mk (Kd.R_below (by (with_reducible repeat (first | apply Kd.R_alloc | apply Kd.R_drewN | apply Kd.R_drew)); exact HO302.out) hb); have n2_ := Aside0.mk (Kd.R_below (by (with_reducible repeat (first | apply Kd.R_alloc | apply Kd.R_drewN | apply Kd.R_drew)); exact HO306.out) hb); have n3_ := Aside0.mk (Kd.R_below (by (with_reducible repeat (first | apply Kd.R_alloc | apply Kd.R_drewN | apply Kd.R_drew)); exact HO309.out) hb); have n4_ := Aside0.mk (Kd.R_below (by (with_reducible repeat (first | apply Kd.R_alloc | apply Kd.R_drewN | apply Kd.R_drew)); exact HO313.out) hb); have n5_ := Aside0.mk (Kd.R_below (by (with_reducible repeat (first | apply Kd.R_alloc | apply Kd.R_drewN | apply Kd.R_drew)); exact HO316.out) hb); have n6_ := Aside0.mk (Kd.R_below (by (with_reducible repeat (first | apply Kd.R_alloc | apply Kd.R_drewN | apply Kd.R_drew)); exact HO320.out) hb); have n7_ := Aside0.mk (Kd.R_below (by (with_reducible repeat (first | apply Kd.R_alloc | apply Kd.R_drewN | apply Kd.R_drew)); exact HO325.out) hb); have n8_ := Aside0.mk (Kd.R_below (by (with_reducible repeat (first | apply Kd.R_alloc | apply Kd.R_drewN | apply Kd.R_drew)); exact HO329.out) hb); have n9_ := Aside0.mk (blk_below (g := gb299) (o := .cells #[.int .i64 1, .int .i64 5, .int .i64 9] 32 (0, 0)) (by (with_reducible repeat (first | refine blk_drewN ?_ _ | refine blk_drew ?_ | refine blk_alloc ?_ _)); exact BK299.out) hb); have n10_ := Aside0.mk (below_step (by repeat (first | (with_reducible first | exact HB.out | apply below_alloc | apply pw_below_drewN | apply below_drew1 | refine below_set ?_ GE299.out) | exact HB.out)) hb); clear HO298; clear HO302; clear HO306; clear HO309; clear HO313; clear HO316; clear HO320; clear HO325; clear HO329; clear BK299; clear HB; have HO298 := n0_; have HO302 := n1_; have HO306 := n2_; have HO309 := n3_; have HO313 := n4_; have HO316 := n5_; have HO320 := n6_; have HO325 := n7_; have HO329 := n8_; have BK299 := n9_; have HB := n10_; clear n0_ n1_ n2_ n3_ n4_ n5_ n6_ n7_ n8_ n9_ n10_; (try clear hb); (try clear hb2); (try clear hk); (try clear hi)) | (go_at_call 24; (with_reducible refine (mute_Total.calls k _ _ y296 1 t334 _ ?side1 ?side2 A20.out).mono ?_); (case side1 => repeat (first | exact (Kd.R_reads' HO298.out).2.2 | (with_reducible refine Kd.C_alloc ?_ _) | (with_reducible refine Kd.C_drewN ?_ _) | (with_reducible refine Kd.C_drew ?_))); (case side2 => exact (Kd.R_reads' HO298.out).2.1); rintro e w51 ⟨rfl, hb⟩; have n0_ := Aside0.mk (Kd.R_below (by (with_reducible repeat (first | apply Kd.R_alloc | apply Kd.R_drewN | apply Kd.R_drew)); exact HO298.out) hb); have n1_ := Aside0.mk (Kd.R_below (by (with_reducible repeat (first | apply Kd.R_alloc | apply Kd.R_drewN | apply Kd.R_drew)); exact HO302.out) hb); have n2_ := Aside0.mk (Kd.R_below (by (with_reducible repeat (first | apply Kd.R_alloc | apply Kd.R_drewN | apply Kd.R_drew)); exact HO306.out) hb); have n3_ := Aside0.mk (Kd.R_below (by (with_reducible repeat (first | apply Kd.R_alloc | apply Kd.R_drewN | apply Kd.R_drew)); exact HO309.out) hb); have n4_ := Aside0.mk (Kd.R_below (by (with_reducible repeat (first | apply Kd.R_alloc | apply Kd.R_drewN | apply Kd.R_drew)); exact HO313.out) hb); have n5_ := Aside0.mk (Kd.R_below (by (with_reducible repeat (first | apply Kd.R_alloc | apply Kd.R_drewN | apply Kd.R_drew)); exact HO316.out) hb); have n6_ := Aside0.mk (Kd.R_below (by (with_reducible repeat (first | apply Kd.R_alloc | apply Kd.R_drewN | apply Kd.R_drew)); exact HO320.out) hb); have n7_ := Aside0.mk (Kd.R_below (by (with_reducible repeat (first | apply Kd.R_alloc | apply Kd.R_drewN | apply Kd.R_drew)); exact HO325.out) hb); have n8_ := Aside0.mk (Kd.R_below (by (with_reducible repeat (first | apply Kd.R_alloc | apply Kd.R_drewN | apply Kd.R_drew)); exact HO329.out) hb); have n9_ := Aside0.mk (blk_below (g := gb299) (o := .cells #[.int .i64 1, .int .i64 5, .int .i64 9] 32 (0, 0)) (by (with_reducible repeat (first | refine blk_drewN ?_ _ | refine blk_drew ?_ | refine blk_alloc ?_ _)); exact BK299.out) hb); have n10_ := Aside0.mk (below_step (by repeat (first | (with_reducible first | exact HB.out | apply below_alloc | apply pw_below_drewN | apply below_drew1 | refine below_set ?_ GE299.out) | exact HB.out)) hb); clear HO298; clear HO302; clear HO306; clear HO309; clear HO313; clear HO316; clear HO320; clear HO325; clear HO329; clear BK299; clear HB; have HO298 := n0_; have HO302 := n1_; have HO306 := n2_; have HO309 := n3_; have HO313 := n4_; have HO316 := n5_; have HO320 := n6_; have HO325 := n7_; have HO329 := n8_; have BK299 := n9_; have HB := n10_; clear n0_ n1_ n2_ n3_ n4_ n5_ n6_ n7_ n8_ n9_ n10_; (try clear hb); (try clear hb2); (try clear hk); (try clear hi)))
                      go_ret
                      exact ⟨by first | rfl | (simp [errW_none, errW_some] <;> rfl) | (simp [*, errW_none, errW_some] <;> rfl), by repeat (first | (with_reducible first | exact HB.out | apply below_alloc | apply pw_below_drewN | apply below_drew1 | refine below_set ?_ GE299.out) | exact HB.out)⟩
                  · replace c17 := Bool.eq_false_iff.mpr c17
                    subst c17
                    have H1 : (none) = some r := by rw [if_neg (show ¬ (false = true) by decide)] at H; exact H
                    clear H
                    have H := H1
                    clear H1
                    exact absurd H (by simp)
                · replace c15 := Bool.eq_false_iff.mpr c15
                  subst c15
                  have H1 : (none) = some r := by rw [if_neg (show ¬ (false = true) by decide)] at H; exact H
                  clear H
                  have H := H1
                  clear H1
                  exact absurd H (by simp)
              · rw [if_neg c13] at H
                exact absurd H (by simp)
            · replace c12 := Bool.eq_false_iff.mpr c12
              subst c12
              have H1 : (none) = some r := by rw [if_neg (show ¬ (false = true) by decide)] at H; exact H
              clear H
              have H := H1
              clear H1
              exact absurd H (by simp)
          · rw [if_neg c11] at H
            exact absurd H (by simp)
        · replace c10 := Bool.eq_false_iff.mpr c10
          subst c10
          have H1 : (none) = some r := by rw [if_neg (show ¬ (false = true) by decide)] at H; exact H
          clear H
          have H := H1
          clear H1
          exact absurd H (by simp)
      · rw [if_neg c8] at H
        exact absurd H (by simp)
    · replace c7 := Bool.eq_false_iff.mpr c7
      subst c7
      have H1 : (none) = some r := by rw [if_neg (show ¬ (false = true) by decide)] at H; exact H
      clear H
      have H := H1
      clear H1
      exact absurd H (by simp)
  · rw [if_neg c5] at H
    exact absurd H (by simp)
end Go.Proofs.Ytaooefnmdlajcaa.P

namespace Go.Proofs.Ytaooefnmdlajcaa.P
open Go.RowKit Go.Proofs.YtaooefnmdlajcaaW.PrintWords Go.Proofs.YtaooefnmdlajcaaW.PrintLast Go.Proofs.YtaooefnmdlajcaaW.PrintMore
attribute [local go_sem] max2_int min2_int max_two min_two max_three min_three max_four min_four
set_option linter.unusedVariables false
set_option linter.unusedSimpArgs false
end Go.Proofs.Ytaooefnmdlajcaa.P

namespace Go.Proofs.Ytaooefnmdlajcaa.P
open Go.RowKit Go.Proofs.YtaooefnmdlajcaaW.PrintWords Go.Proofs.YtaooefnmdlajcaaW.PrintLast Go.Proofs.YtaooefnmdlajcaaW.PrintMore
attribute [local go_sem] max2_int min2_int max_two min_two max_three min_three max_four min_four
set_option linter.unusedVariables false
set_option linter.unusedSimpArgs false
mutual
def watchmanlaw10_MuteTotal.j0 : Nat → Int → List (S32) → List (S32) → Bool → Int → Int → Int → Option (Bool)
  | 0, _, _, _, _, _, _, _ => none
  | k + 1, x2, x7, x9, x36, x402000, x402001, x402002 => if x36 = true then ((watchmanlaw10_muted.f k).bind fun t416 => (some t416)) else ((mute_Cut.f k x7 (([(⟨x402000, x402001, x402002⟩ : S32)] : List (S32)))).bind fun bt420 => (if x2 = x402000 then (watchmanlaw10_MuteTotal.j1 k x2 x7 x9 bt420.1 bt420.2 (wrap64 (x402002 - x402001))) else (watchmanlaw10_MuteTotal.j1 k x2 x7 x9 bt420.1 bt420.2 0)))
def watchmanlaw10_MuteTotal.j1 : Nat → Int → List (S32) → List (S32) → List (S32) → Int → Int → Option (Bool)
  | 0, _, _, _, _, _, _ => none
  | k + 1, x2, x7, x9, x11, x12, x13 => (watchmanlaw10_muted.f k).bind fun t424 => (if t424 = true then (if x12 = 0 then ((watchmanref10_Same.f k x11 x9).bind fun t425 => (if t425 = true then ((mute_Total.f k x7 x2).bind fun t426 => ((mute_Total.f k x9 x2).bind fun t427 => (some (t426 == (wrap64 (t427 + x13)))))) else (none))) else (none)) else (none))
end
def watchmanlaw10_MuteTotal.f (k : Nat) (l0 : List (S32)) (a1_0 : Int) (a1_1 : Int) (a1_2 : Int) (a2 : Int) : Option (Bool) := if (l0.length : Int) > 90 then (some true) else ((mute_Add.f k l0 (([(⟨a1_0, a1_1, a1_2⟩ : S32)] : List (S32)))).bind fun bt405 => ((mute_Cut.f k l0 (([(⟨a1_0, a1_1, a1_2⟩ : S32)] : List (S32)))).bind fun bt412 => (if bt405.2 = 0 then (watchmanlaw10_MuteTotal.j0 k a2 bt405.1 bt412.1 (bt412.2 != 0) a1_0 a1_1 a1_2) else (watchmanlaw10_MuteTotal.j0 k a2 bt405.1 bt412.1 true a1_0 a1_1 a1_2))))
theorem watchmanlaw10_MuteTotal.mono_l : ∀ k, (∀ y0 y1 y2 y3 y4 y5 y6, LeO (watchmanlaw10_MuteTotal.j0 k y0 y1 y2 y3 y4 y5 y6) (watchmanlaw10_MuteTotal.j0 (k + 1) y0 y1 y2 y3 y4 y5 y6)) ∧ (∀ y0 y1 y2 y3 y4 y5, LeO (watchmanlaw10_MuteTotal.j1 k y0 y1 y2 y3 y4 y5) (watchmanlaw10_MuteTotal.j1 (k + 1) y0 y1 y2 y3 y4 y5))
  | 0 => ⟨fun _ _ _ _ _ _ _ r h => by simp [watchmanlaw10_MuteTotal.j0] at h, fun _ _ _ _ _ _ r h => by simp [watchmanlaw10_MuteTotal.j1] at h⟩
  | k + 1 => by
    obtain ⟨ih0, ih1⟩ := watchmanlaw10_MuteTotal.mono_l k
    refine ⟨?_, ?_⟩
    · intro y0 y1 y2 y3 y4 y5 y6
      unfold watchmanlaw10_MuteTotal.j0
      repeat' first
      | (with_reducible exact ih0 _ _ _ _ _ _ _)
      | (with_reducible exact ih1 _ _ _ _ _ _)
      | (with_reducible exact mute_Add.mono _ _ _)
      | (with_reducible exact mute_Cut.mono _ _ _)
      | (with_reducible exact mute_Total.mono _ _ _)
      | (with_reducible exact watchmanlaw10_muted.mono _)
      | (with_reducible exact watchmanref10_Same.mono _ _ _)
      | (with_reducible exact LeO.refl _)
      | (with_reducible exact LeO.none _)
      | (with_reducible refine LeO.ite ?_ ?_)
      | (with_reducible refine LeO.bind ?_ (fun _ => ?_))
      | exact ih0 _ _ _ _ _ _ _
      | exact ih1 _ _ _ _ _ _
      | exact mute_Add.mono _ _ _
      | exact mute_Cut.mono _ _ _
      | exact mute_Total.mono _ _ _
      | exact watchmanlaw10_muted.mono _
      | exact watchmanref10_Same.mono _ _ _
      | exact LeO.none _
      | refine LeO.ite ?_ ?_
      | refine LeO.bind ?_ (fun _ => ?_)
    · intro y0 y1 y2 y3 y4 y5
      unfold watchmanlaw10_MuteTotal.j1
      repeat' first
      | (with_reducible exact ih0 _ _ _ _ _ _ _)
      | (with_reducible exact ih1 _ _ _ _ _ _)
      | (with_reducible exact mute_Add.mono _ _ _)
      | (with_reducible exact mute_Cut.mono _ _ _)
      | (with_reducible exact mute_Total.mono _ _ _)
      | (with_reducible exact watchmanlaw10_muted.mono _)
      | (with_reducible exact watchmanref10_Same.mono _ _ _)
      | (with_reducible exact LeO.refl _)
      | (with_reducible exact LeO.none _)
      | (with_reducible refine LeO.ite ?_ ?_)
      | (with_reducible refine LeO.bind ?_ (fun _ => ?_))
      | exact ih0 _ _ _ _ _ _ _
      | exact ih1 _ _ _ _ _ _
      | exact mute_Add.mono _ _ _
      | exact mute_Cut.mono _ _ _
      | exact mute_Total.mono _ _ _
      | exact watchmanlaw10_muted.mono _
      | exact watchmanref10_Same.mono _ _ _
      | exact LeO.none _
      | refine LeO.ite ?_ ?_
      | refine LeO.bind ?_ (fun _ => ?_)
theorem watchmanlaw10_MuteTotal.mono : ∀ a0 a1 a2 a3 a4 k, LeO (watchmanlaw10_MuteTotal.f k a0 a1 a2 a3 a4) (watchmanlaw10_MuteTotal.f (k + 1) a0 a1 a2 a3 a4) := by
  intro a0 a1 a2 a3 a4 k
  obtain ⟨ih0, ih1⟩ := watchmanlaw10_MuteTotal.mono_l k
  unfold watchmanlaw10_MuteTotal.f
  repeat' first
      | (with_reducible exact ih0 _ _ _ _ _ _ _)
      | (with_reducible exact ih1 _ _ _ _ _ _)
      | (with_reducible exact mute_Add.mono _ _ _)
      | (with_reducible exact mute_Cut.mono _ _ _)
      | (with_reducible exact mute_Total.mono _ _ _)
      | (with_reducible exact watchmanlaw10_muted.mono _)
      | (with_reducible exact watchmanref10_Same.mono _ _ _)
      | (with_reducible exact LeO.refl _)
      | (with_reducible exact LeO.none _)
      | (with_reducible refine LeO.ite ?_ ?_)
      | (with_reducible refine LeO.bind ?_ (fun _ => ?_))
      | exact ih0 _ _ _ _ _ _ _
      | exact ih1 _ _ _ _ _ _
      | exact mute_Add.mono _ _ _
      | exact mute_Cut.mono _ _ _
      | exact mute_Total.mono _ _ _
      | exact watchmanlaw10_muted.mono _
      | exact watchmanref10_Same.mono _ _ _
      | exact LeO.none _
      | refine LeO.ite ?_ ?_
      | refine LeO.bind ?_ (fun _ => ?_)
set_option maxHeartbeats 8000000 in
set_option maxRecDepth 100000 in
theorem watchmanlaw10_MuteTotal.calls (k : Nat) (A0 : Option Addr) (c0 : Nat) (l0 : List (S32)) (a1_0 : Int) (a1_1 : Int) (a1_2 : Int) (a2 : Int) (r : Bool) (w : World) (hr0 : Kd.C k32 w A0 l0.length l0) (hc0 : l0.length ≤ c0) (h : watchmanlaw10_MuteTotal.f k l0 a1_0 a1_1 a1_2 a2 = some r) :
    Calls Try.prog 6 #[.slice A0 l0.length c0, .agg #[.int .i64 a1_0, .int .i64 a1_1, .int .i64 a1_2], .int .i64 a2] w fun e w' => e = .returned (.bool r) ∧ Below w.heap.size w w' := by
  have hu32 := Try.underlying32
  have HR0 := Aside0.mk hr0
  have HC0 := Aside0.mk hc0
  clear hr0 hc0
  have HB := Aside0.mk (Below.refl w.heap.size w)
  have H : (if (l0.length : Int) > 90 then (some true) else ((mute_Add.f k l0 (([(⟨a1_0, a1_1, a1_2⟩ : S32)] : List (S32)))).bind fun bt405 => ((mute_Cut.f k l0 (([(⟨a1_0, a1_1, a1_2⟩ : S32)] : List (S32)))).bind fun bt412 => (if bt405.2 = 0 then (watchmanlaw10_MuteTotal.j0 k a2 bt405.1 bt412.1 (bt412.2 != 0) a1_0 a1_1 a1_2) else (watchmanlaw10_MuteTotal.j0 k a2 bt405.1 bt412.1 true a1_0 a1_1 a1_2))))) = some r := h
  clear h
  by_cases c4 : (l0.length : Int) > 90
  · rw [if_pos c4] at H
    have c4b0 : decide (90 < (l0.length : Int)) = true := decide_eq_true c4
    have c4b1 : decide (90 < l0.length) = true := decide_eq_true (by omega)
    clear c4
    obtain rfl := Option.some.inj H
    go_enter Try.func6, Try.ntmps6
    go_wp2_with (first | ((with_reducible refine gate_dst (N := 4) rfl ?_); refine box_event ?hg (N := 4) ?hd (cs := #[.int .i64 a1_0, .int .i64 a1_1, .int .i64 a1_2]) (t := 32) ?hr ?_; (case hd => rfl); (case hg => rfl); (case hr => first | (go_simp; done) | (go_simp; rfl)); intro gb401 hg w5 hbox hb; have n0_ := Aside0.mk (below_step (by repeat (first | (with_reducible first | exact HB.out | apply below_alloc | apply pw_below_drewN | apply below_drew1) | exact HB.out)) hb); have n1_ := Aside0.mk (hbox); have n2_ := Aside0.mk ((by rw [hg]; exact (below_size (by repeat (first | (with_reducible first | exact HB.out | apply below_alloc | apply pw_below_drewN | apply below_drew1) | exact HB.out))) : w.heap.size ≤ gb401)); have n3_ := Aside0.mk ((by rw [hg]; exact (below_size (by repeat (first | (with_reducible first | exact HB.out | apply below_alloc | apply pw_below_drewN | apply below_drew1) | exact HB.out))) : w.heap.size ≤ gb401)); clear HB; have HB := n0_; have BK401 := n1_; have GW401 := n2_; have GE401 := n3_; clear n0_ n1_ n2_ n3_; clear hb hbox hg))
    go_ret
    exact ⟨by first | rfl | (simp [errW_none, errW_some] <;> rfl) | (simp [*, errW_none, errW_some] <;> rfl), by repeat (first | (with_reducible first | exact HB.out | apply below_alloc | apply pw_below_drewN | apply below_drew1 | refine below_set ?_ GE401.out) | exact HB.out)⟩
  · rw [if_neg c4] at H
    have c4b0 : decide (90 < (l0.length : Int)) = false := decide_eq_false c4
    have c4b1 : decide (90 < l0.length) = false := decide_eq_false (by omega)
    clear c4
    obtain ⟨y402, hy402⟩ : ∃ y_ : List (S32), y_ = (([(⟨a1_0, a1_1, a1_2⟩ : S32)] : List (S32))) := ⟨_, rfl⟩
    replace H : ((mute_Add.f k l0 y402).bind fun bt405 => ((mute_Cut.f k l0 (([(⟨a1_0, a1_1, a1_2⟩ : S32)] : List (S32)))).bind fun bt412 => (if bt405.2 = 0 then (watchmanlaw10_MuteTotal.j0 k a2 bt405.1 bt412.1 (bt412.2 != 0) a1_0 a1_1 a1_2) else (watchmanlaw10_MuteTotal.j0 k a2 bt405.1 bt412.1 true a1_0 a1_1 a1_2)))) = some r := by first | (rw [hy402]; with_reducible exact H) | (have H2_ := (Option.bind_some _ _).symm.trans H; rw [hy402]; with_reducible exact H2_) | (have H2_ := (Option.bind_some _ _).symm.trans H; with_reducible exact H2_) | with_reducible exact H | (rw [hy402]; exact H) | exact H
    have Ny402 := Aside0.mk hy402
    clear hy402
    replace H := Option.bind_eq_some_iff.mp H
    obtain ⟨⟨t405, t406⟩, A60, H⟩ := H
    replace H : ((mute_Cut.f k l0 (([(⟨a1_0, a1_1, a1_2⟩ : S32)] : List (S32)))).bind fun bt412 => (if t406 = 0 then (watchmanlaw10_MuteTotal.j0 k a2 t405 bt412.1 (bt412.2 != 0) a1_0 a1_1 a1_2) else (watchmanlaw10_MuteTotal.j0 k a2 t405 bt412.1 true a1_0 a1_1 a1_2))) = some r := H
    have A6 := Aside0.mk A60
    clear A60
    obtain ⟨y409, hy409⟩ : ∃ y_ : List (S32), y_ = (([(⟨a1_0, a1_1, a1_2⟩ : S32)] : List (S32))) := ⟨_, rfl⟩
    replace H : ((mute_Cut.f k l0 y409).bind fun bt412 => (if t406 = 0 then (watchmanlaw10_MuteTotal.j0 k a2 t405 bt412.1 (bt412.2 != 0) a1_0 a1_1 a1_2) else (watchmanlaw10_MuteTotal.j0 k a2 t405 bt412.1 true a1_0 a1_1 a1_2))) = some r := by first | (rw [hy409]; with_reducible exact H) | (have H2_ := (Option.bind_some _ _).symm.trans H; rw [hy409]; with_reducible exact H2_) | (have H2_ := (Option.bind_some _ _).symm.trans H; with_reducible exact H2_) | with_reducible exact H | (rw [hy409]; exact H) | exact H
    have Ny409 := Aside0.mk hy409
    clear hy409
    replace H := Option.bind_eq_some_iff.mp H
    obtain ⟨⟨t412, t413⟩, A70, H⟩ := H
    replace H : (if t406 = 0 then (watchmanlaw10_MuteTotal.j0 k a2 t405 t412 (t413 != 0) a1_0 a1_1 a1_2) else (watchmanlaw10_MuteTotal.j0 k a2 t405 t412 true a1_0 a1_1 a1_2)) = some r := H
    have A7 := Aside0.mk A70
    clear A70
    have HC8 := Aside0.mk H
    clear H
    go_enter Try.func6, Try.ntmps6
    go_upto_region 5 with (first | ((with_reducible refine gate_dst (N := 4) rfl ?_); refine box_event ?hg (N := 4) ?hd (cs := #[.int .i64 a1_0, .int .i64 a1_1, .int .i64 a1_2]) (t := 32) ?hr ?_; (case hd => rfl); (case hg => rfl); (case hr => first | (go_simp; done) | (go_simp; rfl)); intro gb401 hg w9 hbox hb; have n0_ := Aside0.mk (below_step (by repeat (first | (with_reducible first | exact HB.out | apply below_alloc | apply pw_below_drewN | apply below_drew1) | exact HB.out)) hb); have n1_ := Aside0.mk (hbox); have n2_ := Aside0.mk ((by rw [hg]; exact (below_size (by repeat (first | (with_reducible first | exact HB.out | apply below_alloc | apply pw_below_drewN | apply below_drew1) | exact HB.out))) : w.heap.size ≤ gb401)); have n3_ := Aside0.mk ((by rw [hg]; exact (below_size (by repeat (first | (with_reducible first | exact HB.out | apply below_alloc | apply pw_below_drewN | apply below_drew1) | exact HB.out))) : w.heap.size ≤ gb401)); clear HB; have HB := n0_; have BK401 := n1_; have GW401 := n2_; have GE401 := n3_; clear n0_ n1_ n2_ n3_; clear hb hbox hg; have hcz10_0 : w9.cell? ⟨gb401, 0, none⟩ = some (.int .i64 a1_0) := (blk_cell BK401.out 0).trans rfl; have hcz10_1 : w9.cell? ⟨gb401, 1, none⟩ = some (.int .i64 a1_1) := (blk_cell BK401.out 1).trans rfl; have hcz10_2 : w9.cell? ⟨gb401, 2, none⟩ = some (.int .i64 a1_2) := (blk_cell BK401.out 2).trans rfl; have hfz10_0 := blk_frozen BK401.out 0; have hfz10_1 := blk_frozen BK401.out 1; have hfz10_2 := blk_frozen BK401.out 2) | ((with_reducible refine gate_dst (N := 20) rfl ?_); refine Kd.R_lit k32 _ 32 ?hg (N := 20) ?hd (xs := ([(⟨a1_0, a1_1, a1_2⟩ : S32)] : List (S32))) (inner := [.int .i64 a1_0, .int .i64 a1_1, .int .i64 a1_2]) (ok := fun _ => True) (okp := fun _ => True) ?hr ?hp (fun _ hk => hk) trivial (Below.refl _ _) (Nat.le_refl _) (by simp) ?_; (case hd => rfl); (case hg => rfl); (case hr => first | (go_simp; done) | (go_simp; rfl)); (case hp => exact (Reps.c3 (show Kd.M k32 _ _ _ (⟨a1_0, a1_1, a1_2⟩ : S32) [.int .i64 a1_0, .int .i64 a1_1, .int .i64 a1_2] from (k32_mkM _ _ _ (⟨a1_0, a1_1, a1_2⟩ : S32) )) (Reps.none _ _))); intro v403 w11 ho12 hb hg_ hnew_; clear hg_ hnew_; (first | rw [← Ny402.out] at ho12 | (simp only [Int.reduceToNat] at ho12; rw [← Ny402.out] at ho12)); have n0_ := Aside0.mk (Kd.R_lower (Kd.R_newB ho12 (g := gb401) (o := .cells #[.int .i64 a1_0, .int .i64 a1_1, .int .i64 a1_2] 32 (0, 0)) (by (with_reducible repeat (first | refine blk_drewN ?_ _ | refine blk_drew ?_ | refine blk_alloc ?_ _)); exact BK401.out)) (below_size (by repeat (first | (with_reducible first | exact HB.out | apply below_alloc | apply pw_below_drewN | apply below_drew1 | refine below_set ?_ GE401.out) | exact HB.out)))); have n1_ := Aside0.mk (blk_below (g := gb401) (o := .cells #[.int .i64 a1_0, .int .i64 a1_1, .int .i64 a1_2] 32 (0, 0)) (by (with_reducible repeat (first | refine blk_drewN ?_ _ | refine blk_drew ?_ | refine blk_alloc ?_ _)); exact BK401.out) hb); have n2_ := Aside0.mk (below_step (by repeat (first | (with_reducible first | exact HB.out | apply below_alloc | apply pw_below_drewN | apply below_drew1 | refine below_set ?_ GE401.out) | exact HB.out)) hb); clear BK401; clear HB; have HO404 := n0_; have BK401 := n1_; have HB := n2_; clear n0_ n1_ n2_; clear hb ho12; obtain ⟨Ao13, co13, eo13⟩ := Kd.R_slice HO404.out; subst eo13) | ((with_reducible refine gate_callee (f := 12) rfl ?_); refine goesL_ (some 21) rfl rfl Try.func12 (by kernel_rfl) rfl #[.slice A0 l0.length c0, .slice Ao13 y402.length co13] rfl (by (try simp only [List.map_toArray, List.map_cons, List.map_nil]); first | done | rfl | (simp only [List.length_drop, List.length_take]; rfl)) ?_; (with_reducible refine (mute_Add.calls k _ _ l0 _ _ y402 t405 t406 _ ?side1 ?side2 ?side3 ?side4 A6.out).mono ?_); (case side1 => repeat (first | exact (Kd.C_below HR0.out HB.out) | (with_reducible refine Kd.C_alloc ?_ _) | (with_reducible refine Kd.C_drewN ?_ _) | (with_reducible refine Kd.C_drew ?_))); (case side2 => exact HC0.out); (case side3 => repeat (first | exact (Kd.R_reads' HO404.out).2.2 | (with_reducible refine Kd.C_alloc ?_ _) | (with_reducible refine Kd.C_drewN ?_ _) | (with_reducible refine Kd.C_drew ?_))); (case side4 => exact (Kd.R_reads' HO404.out).2.1); rintro e w14 ⟨v407, rfl, ho0, hb⟩; refine ⟨_, rfl, ?_⟩; have n0_ := Aside0.mk (Kd.R_elder' (by (with_reducible repeat (first | apply Kd.R_alloc | apply Kd.R_drewN | apply Kd.R_drew)); exact HO404.out) (Kd.R_base ho0) hb); have n1_ := Aside0.mk (Kd.R_lower (Kd.R_newB (Kd.R_new' ho0 (Kd.R_lt (by (with_reducible repeat (first | apply Kd.R_alloc | apply Kd.R_drewN | apply Kd.R_drew)); exact HO404.out))) (g := gb401) (o := .cells #[.int .i64 a1_0, .int .i64 a1_1, .int .i64 a1_2] 32 (0, 0)) (by (with_reducible repeat (first | refine blk_drewN ?_ _ | refine blk_drew ?_ | refine blk_alloc ?_ _)); exact BK401.out)) (below_size (by repeat (first | (with_reducible first | exact HB.out | apply below_alloc | apply pw_below_drewN | apply below_drew1 | refine below_set ?_ GE401.out) | exact HB.out)))); have n2_ := Aside0.mk (blk_below (g := gb401) (o := .cells #[.int .i64 a1_0, .int .i64 a1_1, .int .i64 a1_2] 32 (0, 0)) (by (with_reducible repeat (first | refine blk_drewN ?_ _ | refine blk_drew ?_ | refine blk_alloc ?_ _)); exact BK401.out) hb); have n3_ := Aside0.mk (below_step (by repeat (first | (with_reducible first | exact HB.out | apply below_alloc | apply pw_below_drewN | apply below_drew1 | refine below_set ?_ GE401.out) | exact HB.out)) hb); clear HO404; clear BK401; clear HB; have HO404 := n0_; have HO408 := n1_; have BK401 := n2_; have HB := n3_; clear n0_ n1_ n2_ n3_; (try clear hb); (try clear hb2); (try clear hk); (try clear hi); (try clear ho0); have hcz15_0 : w14.cell? ⟨gb401, 0, none⟩ = some (.int .i64 a1_0) := (blk_cell BK401.out 0).trans rfl; have hcz15_1 : w14.cell? ⟨gb401, 1, none⟩ = some (.int .i64 a1_1) := (blk_cell BK401.out 1).trans rfl; have hcz15_2 : w14.cell? ⟨gb401, 2, none⟩ = some (.int .i64 a1_2) := (blk_cell BK401.out 2).trans rfl; have hfz15_0 := blk_frozen BK401.out 0; have hfz15_1 := blk_frozen BK401.out 1; have hfz15_2 := blk_frozen BK401.out 2) | ((with_reducible refine gate_dst (N := 27) rfl ?_); refine Kd.R_lit k32 _ 32 ?hg (N := 27) ?hd (xs := ([(⟨a1_0, a1_1, a1_2⟩ : S32)] : List (S32))) (inner := [.int .i64 a1_0, .int .i64 a1_1, .int .i64 a1_2]) (ok := fun _ => True) (okp := fun _ => True) ?hr ?hp (fun _ hk => hk) trivial (Below.refl _ _) (Nat.le_refl _) (by simp) ?_; (case hd => rfl); (case hg => rfl); (case hr => first | (go_simp; done) | (go_simp; rfl)); (case hp => exact (Reps.c3 (show Kd.M k32 _ _ _ (⟨a1_0, a1_1, a1_2⟩ : S32) [.int .i64 a1_0, .int .i64 a1_1, .int .i64 a1_2] from (k32_mkM _ _ _ (⟨a1_0, a1_1, a1_2⟩ : S32) )) (Reps.none _ _))); intro v410 w16 ho17 hb hg_ hnew_; clear hg_ hnew_; (first | rw [← Ny409.out] at ho17 | (simp only [Int.reduceToNat] at ho17; rw [← Ny409.out] at ho17)); have n0_ := Aside0.mk (Kd.R_elder' (by (with_reducible repeat (first | apply Kd.R_alloc | apply Kd.R_drewN | apply Kd.R_drew)); exact HO404.out) (Kd.R_base ho17) hb); have n1_ := Aside0.mk (Kd.R_elder' (by (with_reducible repeat (first | apply Kd.R_alloc | apply Kd.R_drewN | apply Kd.R_drew)); exact HO408.out) (Kd.R_base ho17) hb); have n2_ := Aside0.mk (Kd.R_lower (Kd.R_newB (Kd.R_new' (Kd.R_new' ho17 (Kd.R_lt (by (with_reducible repeat (first | apply Kd.R_alloc | apply Kd.R_drewN | apply Kd.R_drew)); exact HO404.out))) (Kd.R_lt (by (with_reducible repeat (first | apply Kd.R_alloc | apply Kd.R_drewN | apply Kd.R_drew)); exact HO408.out))) (g := gb401) (o := .cells #[.int .i64 a1_0, .int .i64 a1_1, .int .i64 a1_2] 32 (0, 0)) (by (with_reducible repeat (first | refine blk_drewN ?_ _ | refine blk_drew ?_ | refine blk_alloc ?_ _)); exact BK401.out)) (below_size (by repeat (first | (with_reducible first | exact HB.out | apply below_alloc | apply pw_below_drewN | apply below_drew1 | refine below_set ?_ GE401.out) | exact HB.out)))); have n3_ := Aside0.mk (blk_below (g := gb401) (o := .cells #[.int .i64 a1_0, .int .i64 a1_1, .int .i64 a1_2] 32 (0, 0)) (by (with_reducible repeat (first | refine blk_drewN ?_ _ | refine blk_drew ?_ | refine blk_alloc ?_ _)); exact BK401.out) hb); have n4_ := Aside0.mk (below_step (by repeat (first | (with_reducible first | exact HB.out | apply below_alloc | apply pw_below_drewN | apply below_drew1 | refine below_set ?_ GE401.out) | exact HB.out)) hb); clear HO404; clear HO408; clear BK401; clear HB; have HO404 := n0_; have HO408 := n1_; have HO411 := n2_; have BK401 := n3_; have HB := n4_; clear n0_ n1_ n2_ n3_ n4_; clear hb ho17; obtain ⟨Ao18, co18, eo18⟩ := Kd.R_slice HO411.out; subst eo18) | ((with_reducible refine gate_callee (f := 14) rfl ?_); refine goesL_ (some 28) rfl rfl Try.func14 (by kernel_rfl) rfl #[.slice A0 l0.length c0, .slice Ao18 y409.length co18] rfl (by (try simp only [List.map_toArray, List.map_cons, List.map_nil]); first | done | rfl | (simp only [List.length_drop, List.length_take]; rfl)) ?_; (with_reducible refine (mute_Cut.calls k _ _ l0 _ _ y409 t412 t413 _ ?side1 ?side2 ?side3 ?side4 A7.out).mono ?_); (case side1 => repeat (first | exact (Kd.C_below HR0.out HB.out) | (with_reducible refine Kd.C_alloc ?_ _) | (with_reducible refine Kd.C_drewN ?_ _) | (with_reducible refine Kd.C_drew ?_))); (case side2 => exact HC0.out); (case side3 => repeat (first | exact (Kd.R_reads' HO411.out).2.2 | (with_reducible refine Kd.C_alloc ?_ _) | (with_reducible refine Kd.C_drewN ?_ _) | (with_reducible refine Kd.C_drew ?_))); (case side4 => exact (Kd.R_reads' HO411.out).2.1); rintro e w19 ⟨v414, rfl, ho0, hb⟩; refine ⟨_, rfl, ?_⟩; have n0_ := Aside0.mk (Kd.R_elder' (by (with_reducible repeat (first | apply Kd.R_alloc | apply Kd.R_drewN | apply Kd.R_drew)); exact HO404.out) (Kd.R_base ho0) hb); have n1_ := Aside0.mk (Kd.R_elder' (by (with_reducible repeat (first | apply Kd.R_alloc | apply Kd.R_drewN | apply Kd.R_drew)); exact HO408.out) (Kd.R_base ho0) hb); have n2_ := Aside0.mk (Kd.R_elder' (by (with_reducible repeat (first | apply Kd.R_alloc | apply Kd.R_drewN | apply Kd.R_drew)); exact HO411.out) (Kd.R_base ho0) hb); have n3_ := Aside0.mk (Kd.R_lower (Kd.R_newB (Kd.R_new' (Kd.R_new' (Kd.R_new' ho0 (Kd.R_lt (by (with_reducible repeat (first | apply Kd.R_alloc | apply Kd.R_drewN | apply Kd.R_drew)); exact HO404.out))) (Kd.R_lt (by (with_reducible repeat (first | apply Kd.R_alloc | apply Kd.R_drewN | apply Kd.R_drew)); exact HO408.out))) (Kd.R_lt (by (with_reducible repeat (first | apply Kd.R_alloc | apply Kd.R_drewN | apply Kd.R_drew)); exact HO411.out))) (g := gb401) (o := .cells #[.int .i64 a1_0, .int .i64 a1_1, .int .i64 a1_2] 32 (0, 0)) (by (with_reducible repeat (first | refine blk_drewN ?_ _ | refine blk_drew ?_ | refine blk_alloc ?_ _)); exact BK401.out)) (below_size (by repeat (first | (with_reducible first | exact HB.out | apply below_alloc | apply pw_below_drewN | apply below_drew1 | refine below_set ?_ GE401.out) | exact HB.out)))); have n4_ := Aside0.mk (blk_below (g := gb401) (o := .cells #[.int .i64 a1_0, .int .i64 a1_1, .int .i64 a1_2] 32 (0, 0)) (by (with_reducible repeat (first | refine blk_drewN ?_ _ | refine blk_drew ?_ | refine blk_alloc ?_ _)); exact BK401.out) hb); have n5_ := Aside0.mk (below_step (by repeat (first | (with_reducible first | exact HB.out | apply below_alloc | apply pw_below_drewN | apply below_drew1 | refine below_set ?_ GE401.out) | exact HB.out)) hb); clear HO404; clear HO408; clear HO411; clear BK401; clear HB; have HO404 := n0_; have HO408 := n1_; have HO411 := n2_; have HO415 := n3_; have BK401 := n4_; have HB := n5_; clear n0_ n1_ n2_ n3_ n4_ n5_; (try clear hb); (try clear hb2); (try clear hk); (try clear hi); (try clear ho0)))
    (try simp only [Act.put, List.setIfInBounds_toArray, List.set_cons_zero, List.set_cons_succ])
    go_cut [36] (fun v36 wc => ∃ (kq : Nat) (x36_7 : Bool), v36 = .bool x36_7 ∧ Aside0 (watchmanlaw10_MuteTotal.j0 kq a2 t405 t412 x36_7 a1_0 a1_1 a1_2 = some r) ∧ Aside0 (kq ≤ k) ∧ Aside0 (Kd.R k32 32 wc w.heap.size (fun k_ => some k_ ≠ (v414 : Value).ownBlock ∧ k_ ≠ gb401) v407 t405) ∧ Aside0 (Kd.R k32 32 wc w.heap.size (fun k_ => some k_ ≠ (v407 : Value).ownBlock ∧ k_ ≠ gb401) v414 t412) ∧ Aside0 (wc.heap[gb401]? = some (.cells #[.int .i64 a1_0, .int .i64 a1_1, .int .i64 a1_2] 32 (0, 0))) ∧ Aside0 (Below w.heap.size w wc))
    case first =>
      have H := HC8.out
      clear HC8
      by_cases c20 : t406 = 0
      · rw [if_pos c20] at H
        have c20b0 : (t406 == 0) = true := beq_iff_eq.mpr c20
        have c20b1 : (t406 != 0) = false := bne_eq_false_iff_eq.mpr c20
        clear c20
        (first | rw [c20b0] | (simp only [i64_w, i32_w]; rw [c20b0]) | skip)
        have H' := Aside0.mk H
        clear H
        go_wp2
        go_meet
        case rel => exact ⟨_, ((t413 != 0)), (by first | rfl | (simp; done) | (simp [*]; done)), H', ⟨by first | omega | exact Nat.le_refl _⟩, ⟨by (with_reducible repeat (first | apply Kd.R_alloc | apply Kd.R_drewN | apply Kd.R_drew)); exact Kd.R_mono HO408.out (fun _ hk => ⟨hk.2, hk.1.1.2⟩)⟩, ⟨by (with_reducible repeat (first | apply Kd.R_alloc | apply Kd.R_drewN | apply Kd.R_drew)); exact Kd.R_mono HO415.out (fun _ hk => ⟨hk.1.1.2, hk.2⟩)⟩, ⟨by (with_reducible repeat (first | refine blk_drewN ?_ _ | refine blk_drew ?_ | refine blk_alloc ?_ _)); exact BK401.out⟩, ⟨by repeat (first | (with_reducible first | exact HB.out | apply below_alloc | apply pw_below_drewN | apply below_drew1 | refine below_set ?_ GE401.out) | exact HB.out)⟩⟩
      · rw [if_neg c20] at H
        have c20b0 : (t406 == 0) = false := beq_eq_false_iff_ne.mpr c20
        have c20b1 : (t406 != 0) = true := bne_iff_ne.mpr c20
        (first | rw [c20b0] | (simp only [i64_w, i32_w]; rw [c20b0]) | skip)
        have H' := Aside0.mk H
        clear H
        go_wp2
        go_meet
        case rel => exact ⟨_, (true), (by first | rfl | (simp; done) | (simp [*]; done)), H', ⟨by first | omega | exact Nat.le_refl _⟩, ⟨by (with_reducible repeat (first | apply Kd.R_alloc | apply Kd.R_drewN | apply Kd.R_drew)); exact Kd.R_mono HO408.out (fun _ hk => ⟨hk.2, hk.1.1.2⟩)⟩, ⟨by (with_reducible repeat (first | apply Kd.R_alloc | apply Kd.R_drewN | apply Kd.R_drew)); exact Kd.R_mono HO415.out (fun _ hk => ⟨hk.1.1.2, hk.2⟩)⟩, ⟨by (with_reducible repeat (first | refine blk_drewN ?_ _ | refine blk_drew ?_ | refine blk_alloc ?_ _)); exact BK401.out⟩, ⟨by repeat (first | (with_reducible first | exact HB.out | apply below_alloc | apply pw_below_drewN | apply below_drew1 | refine below_set ?_ GE401.out) | exact HB.out)⟩⟩
    case rest =>
      clear HC8
      try clear c1
      try clear c2
      try clear p2
      try clear c3
      try clear c4
      try clear c4b0
      try clear c4b1
      try clear c6
      try clear c12
      try clear c14
      try clear c20
      try clear c20b0
      try clear c20b1
      try clear hcz10_0
      try clear hcz10_1
      try clear hcz10_2
      try clear hcz15_0
      try clear hcz15_1
      try clear hcz15_2
      try clear hfz10_0
      try clear hfz10_1
      try clear hfz10_2
      try clear hfz15_0
      try clear hfz15_1
      try clear hfz15_2
      obtain ⟨kq, x36_7, rfl, HA, HJ7, HO_7, HO_9, BK401, HB⟩ := hcut
      cases kq with
      | zero => exact absurd HA.out (by simp [watchmanlaw10_MuteTotal.j0])
      | succ kj7 =>
        have H := HA.out
        clear HA
        simp only [watchmanlaw10_MuteTotal.j0] at H
        by_cases c21 : x36_7 = true
        · subst c21
          have H1 : ((watchmanlaw10_muted.f kj7).bind fun t416 => (some t416)) = some r := by rw [if_pos rfl] at H; exact H
          clear H
          have H := H1
          clear H1
          replace H := Option.bind_eq_some_iff.mp H
          obtain ⟨t416, A220, H⟩ := H
          replace H : (some t416) = some r := H
          have A22 := Aside0.mk A220
          clear A220
          obtain rfl := Option.some.inj H
          go_wp2_with (first | ((with_reducible refine gate_callee (f := 19) rfl ?_); refine goesL_ (some 37) rfl rfl Try.func19 (by kernel_rfl) rfl #[] rfl (by (try simp only [List.map_toArray, List.map_cons, List.map_nil]); first | done | rfl | (simp only [List.length_drop, List.length_take]; rfl)) ?_; (with_reducible refine (watchmanlaw10_muted.calls kj7  t416 _ A22.out).mono ?_); rintro e w23 ⟨rfl, hb⟩; refine ⟨_, rfl, ?_⟩; have n0_ := Aside0.mk (Kd.R_below (by (with_reducible repeat (first | apply Kd.R_alloc | apply Kd.R_drewN | apply Kd.R_drew)); exact HO_7.out) hb); have n1_ := Aside0.mk (Kd.R_below (by (with_reducible repeat (first | apply Kd.R_alloc | apply Kd.R_drewN | apply Kd.R_drew)); exact HO_9.out) hb); have n2_ := Aside0.mk (blk_below (g := gb401) (o := .cells #[.int .i64 a1_0, .int .i64 a1_1, .int .i64 a1_2] 32 (0, 0)) (by (with_reducible repeat (first | refine blk_drewN ?_ _ | refine blk_drew ?_ | refine blk_alloc ?_ _)); exact BK401.out) hb); have n3_ := Aside0.mk (below_step (by repeat (first | (with_reducible first | exact HB.out | apply below_alloc | apply pw_below_drewN | apply below_drew1 | refine below_set ?_ GE401.out) | exact HB.out)) hb); clear HO_7; clear HO_9; clear BK401; clear HB; have HO_7 := n0_; have HO_9 := n1_; have BK401 := n2_; have HB := n3_; clear n0_ n1_ n2_ n3_; (try clear hb); (try clear hb2); (try clear hk); (try clear hi)))
          go_ret
          exact ⟨by first | rfl | (simp [errW_none, errW_some] <;> rfl) | (simp [*, errW_none, errW_some] <;> rfl), by repeat (first | (with_reducible first | exact HB.out | apply below_alloc | apply pw_below_drewN | apply below_drew1 | refine below_set ?_ GE401.out) | exact HB.out)⟩
        · replace c21 := Bool.eq_false_iff.mpr c21
          subst c21
          have H1 : ((mute_Cut.f kj7 t405 (([(⟨a1_0, a1_1, a1_2⟩ : S32)] : List (S32)))).bind fun bt420 => (if a2 = a1_0 then (watchmanlaw10_MuteTotal.j1 kj7 a2 t405 t412 bt420.1 bt420.2 (wrap64 (a1_2 - a1_1))) else (watchmanlaw10_MuteTotal.j1 kj7 a2 t405 t412 bt420.1 bt420.2 0))) = some r := by rw [if_neg (show ¬ (false = true) by decide)] at H; exact H
          clear H
          have H := H1
          clear H1
          obtain ⟨y417, hy417⟩ : ∃ y_ : List (S32), y_ = (([(⟨a1_0, a1_1, a1_2⟩ : S32)] : List (S32))) := ⟨_, rfl⟩
          replace H : ((mute_Cut.f kj7 t405 y417).bind fun bt420 => (if a2 = a1_0 then (watchmanlaw10_MuteTotal.j1 kj7 a2 t405 t412 bt420.1 bt420.2 (wrap64 (a1_2 - a1_1))) else (watchmanlaw10_MuteTotal.j1 kj7 a2 t405 t412 bt420.1 bt420.2 0))) = some r := by first | (rw [hy417]; with_reducible exact H) | (have H2_ := (Option.bind_some _ _).symm.trans H; rw [hy417]; with_reducible exact H2_) | (have H2_ := (Option.bind_some _ _).symm.trans H; with_reducible exact H2_) | with_reducible exact H | (rw [hy417]; exact H) | exact H
          have Ny417 := Aside0.mk hy417
          clear hy417
          replace H := Option.bind_eq_some_iff.mp H
          obtain ⟨⟨t420, t421⟩, A240, H⟩ := H
          replace H : (if a2 = a1_0 then (watchmanlaw10_MuteTotal.j1 kj7 a2 t405 t412 t420 t421 (wrap64 (a1_2 - a1_1))) else (watchmanlaw10_MuteTotal.j1 kj7 a2 t405 t412 t420 t421 0)) = some r := H
          have A24 := Aside0.mk A240
          clear A240
          have HC25 := Aside0.mk H
          clear H
          have hcz26_0 : wc.cell? ⟨gb401, 0, none⟩ = some (.int .i64 a1_0) := (blk_cell BK401.out 0).trans rfl
          have hcz26_1 : wc.cell? ⟨gb401, 1, none⟩ = some (.int .i64 a1_1) := (blk_cell BK401.out 1).trans rfl
          have hcz26_2 : wc.cell? ⟨gb401, 2, none⟩ = some (.int .i64 a1_2) := (blk_cell BK401.out 2).trans rfl
          have hfz26_0 := blk_frozen BK401.out 0
          have hfz26_1 := blk_frozen BK401.out 1
          have hfz26_2 := blk_frozen BK401.out 2
          go_upto_if 48 with (first | ((with_reducible refine gate_dst (N := 41) rfl ?_); refine Kd.R_lit k32 _ 32 ?hg (N := 41) ?hd (xs := ([(⟨a1_0, a1_1, a1_2⟩ : S32)] : List (S32))) (inner := [.int .i64 a1_0, .int .i64 a1_1, .int .i64 a1_2]) (ok := fun _ => True) (okp := fun _ => True) ?hr ?hp (fun _ hk => hk) trivial (Below.refl _ _) (Nat.le_refl _) (by simp) ?_; (case hd => rfl); (case hg => rfl); (case hr => first | (go_simp; done) | (go_simp; rfl)); (case hp => exact (Reps.c3 (show Kd.M k32 _ _ _ (⟨a1_0, a1_1, a1_2⟩ : S32) [.int .i64 a1_0, .int .i64 a1_1, .int .i64 a1_2] from (k32_mkM _ _ _ (⟨a1_0, a1_1, a1_2⟩ : S32) )) (Reps.none _ _))); intro v418 w27 ho28 hb hg_ hnew_; clear hg_ hnew_; (first | rw [← Ny417.out] at ho28 | (simp only [Int.reduceToNat] at ho28; rw [← Ny417.out] at ho28)); have n0_ := Aside0.mk (Kd.R_elder' (by (with_reducible repeat (first | apply Kd.R_alloc | apply Kd.R_drewN | apply Kd.R_drew)); exact HO_7.out) (Kd.R_base ho28) hb); have n1_ := Aside0.mk (Kd.R_elder' (by (with_reducible repeat (first | apply Kd.R_alloc | apply Kd.R_drewN | apply Kd.R_drew)); exact HO_9.out) (Kd.R_base ho28) hb); have n2_ := Aside0.mk (Kd.R_lower (Kd.R_newB (Kd.R_new' (Kd.R_new' ho28 (Kd.R_lt (by (with_reducible repeat (first | apply Kd.R_alloc | apply Kd.R_drewN | apply Kd.R_drew)); exact HO_7.out))) (Kd.R_lt (by (with_reducible repeat (first | apply Kd.R_alloc | apply Kd.R_drewN | apply Kd.R_drew)); exact HO_9.out))) (g := gb401) (o := .cells #[.int .i64 a1_0, .int .i64 a1_1, .int .i64 a1_2] 32 (0, 0)) (by (with_reducible repeat (first | refine blk_drewN ?_ _ | refine blk_drew ?_ | refine blk_alloc ?_ _)); exact BK401.out)) (below_size (by repeat (first | (with_reducible first | exact HB.out | apply below_alloc | apply pw_below_drewN | apply below_drew1 | refine below_set ?_ GE401.out) | exact HB.out)))); have n3_ := Aside0.mk (blk_below (g := gb401) (o := .cells #[.int .i64 a1_0, .int .i64 a1_1, .int .i64 a1_2] 32 (0, 0)) (by (with_reducible repeat (first | refine blk_drewN ?_ _ | refine blk_drew ?_ | refine blk_alloc ?_ _)); exact BK401.out) hb); have n4_ := Aside0.mk (below_step (by repeat (first | (with_reducible first | exact HB.out | apply below_alloc | apply pw_below_drewN | apply below_drew1 | refine below_set ?_ GE401.out) | exact HB.out)) hb); clear HO_7; clear HO_9; clear BK401; clear HB; have HO_7 := n0_; have HO_9 := n1_; have HO419 := n2_; have BK401 := n3_; have HB := n4_; clear n0_ n1_ n2_ n3_ n4_; clear hb ho28; obtain ⟨Ao29, co29, eo29⟩ := Kd.R_slice HO_7.out; subst eo29; obtain ⟨Ao30, co30, eo30⟩ := Kd.R_slice HO419.out; subst eo30) | ((with_reducible refine gate_callee (f := 14) rfl ?_); refine goesL_ (some 42) rfl rfl Try.func14 (by kernel_rfl) rfl #[.slice Ao29 t405.length co29, .slice Ao30 y417.length co30] rfl (by (try simp only [List.map_toArray, List.map_cons, List.map_nil]); first | done | rfl | (simp only [List.length_drop, List.length_take]; rfl)) ?_; (with_reducible refine (mute_Cut.calls kj7 _ _ t405 _ _ y417 t420 t421 _ ?side1 ?side2 ?side3 ?side4 A24.out).mono ?_); (case side1 => repeat (first | exact (Kd.R_reads' HO_7.out).2.2 | (with_reducible refine Kd.C_alloc ?_ _) | (with_reducible refine Kd.C_drewN ?_ _) | (with_reducible refine Kd.C_drew ?_))); (case side2 => exact (Kd.R_reads' HO_7.out).2.1); (case side3 => repeat (first | exact (Kd.R_reads' HO419.out).2.2 | (with_reducible refine Kd.C_alloc ?_ _) | (with_reducible refine Kd.C_drewN ?_ _) | (with_reducible refine Kd.C_drew ?_))); (case side4 => exact (Kd.R_reads' HO419.out).2.1); rintro e w31 ⟨v422, rfl, ho0, hb⟩; refine ⟨_, rfl, ?_⟩; have n0_ := Aside0.mk (Kd.R_elder' (by (with_reducible repeat (first | apply Kd.R_alloc | apply Kd.R_drewN | apply Kd.R_drew)); exact HO_7.out) (Kd.R_base ho0) hb); have n1_ := Aside0.mk (Kd.R_elder' (by (with_reducible repeat (first | apply Kd.R_alloc | apply Kd.R_drewN | apply Kd.R_drew)); exact HO_9.out) (Kd.R_base ho0) hb); have n2_ := Aside0.mk (Kd.R_elder' (by (with_reducible repeat (first | apply Kd.R_alloc | apply Kd.R_drewN | apply Kd.R_drew)); exact HO419.out) (Kd.R_base ho0) hb); have n3_ := Aside0.mk (Kd.R_lower (Kd.R_newB (Kd.R_new' (Kd.R_new' (Kd.R_new' ho0 (Kd.R_lt (by (with_reducible repeat (first | apply Kd.R_alloc | apply Kd.R_drewN | apply Kd.R_drew)); exact HO_7.out))) (Kd.R_lt (by (with_reducible repeat (first | apply Kd.R_alloc | apply Kd.R_drewN | apply Kd.R_drew)); exact HO_9.out))) (Kd.R_lt (by (with_reducible repeat (first | apply Kd.R_alloc | apply Kd.R_drewN | apply Kd.R_drew)); exact HO419.out))) (g := gb401) (o := .cells #[.int .i64 a1_0, .int .i64 a1_1, .int .i64 a1_2] 32 (0, 0)) (by (with_reducible repeat (first | refine blk_drewN ?_ _ | refine blk_drew ?_ | refine blk_alloc ?_ _)); exact BK401.out)) (below_size (by repeat (first | (with_reducible first | exact HB.out | apply below_alloc | apply pw_below_drewN | apply below_drew1 | refine below_set ?_ GE401.out) | exact HB.out)))); have n4_ := Aside0.mk (blk_below (g := gb401) (o := .cells #[.int .i64 a1_0, .int .i64 a1_1, .int .i64 a1_2] 32 (0, 0)) (by (with_reducible repeat (first | refine blk_drewN ?_ _ | refine blk_drew ?_ | refine blk_alloc ?_ _)); exact BK401.out) hb); have n5_ := Aside0.mk (below_step (by repeat (first | (with_reducible first | exact HB.out | apply below_alloc | apply pw_below_drewN | apply below_drew1 | refine below_set ?_ GE401.out) | exact HB.out)) hb); clear HO_7; clear HO_9; clear HO419; clear BK401; clear HB; have HO_7 := n0_; have HO_9 := n1_; have HO419 := n2_; have HO423 := n3_; have BK401 := n4_; have HB := n5_; clear n0_ n1_ n2_ n3_ n4_ n5_; (try clear hb); (try clear hb2); (try clear hk); (try clear hi); (try clear ho0); have hcz32_0 : w31.cell? ⟨gb401, 0, none⟩ = some (.int .i64 a1_0) := (blk_cell BK401.out 0).trans rfl; have hcz32_1 : w31.cell? ⟨gb401, 1, none⟩ = some (.int .i64 a1_1) := (blk_cell BK401.out 1).trans rfl; have hcz32_2 : w31.cell? ⟨gb401, 2, none⟩ = some (.int .i64 a1_2) := (blk_cell BK401.out 2).trans rfl; have hfz32_0 := blk_frozen BK401.out 0; have hfz32_1 := blk_frozen BK401.out 1; have hfz32_2 := blk_frozen BK401.out 2))
          (try simp only [Act.put, List.setIfInBounds_toArray, List.set_cons_zero, List.set_cons_succ])
          go_cut [13] (fun v13 wc => ∃ (kq : Nat) (x13_24 : Int), v13 = .int .i64 x13_24 ∧ Aside0 (watchmanlaw10_MuteTotal.j1 kq a2 t405 t412 t420 t421 x13_24 = some r) ∧ Aside0 (kq ≤ kj7) ∧ Aside0 (Kd.R k32 32 wc w.heap.size (fun k_ => some k_ ≠ (v414 : Value).ownBlock ∧ some k_ ≠ (v422 : Value).ownBlock ∧ k_ ≠ gb401) (.slice Ao29 t405.length co29) t405) ∧ Aside0 (Kd.R k32 32 wc w.heap.size (fun k_ => some k_ ≠ ((.slice Ao29 t405.length co29) : Value).ownBlock ∧ some k_ ≠ (v422 : Value).ownBlock ∧ k_ ≠ gb401) v414 t412) ∧ Aside0 (Kd.R k32 32 wc w.heap.size (fun k_ => some k_ ≠ ((.slice Ao29 t405.length co29) : Value).ownBlock ∧ some k_ ≠ (v414 : Value).ownBlock ∧ k_ ≠ gb401) v422 t420) ∧ Aside0 (wc.heap[gb401]? = some (.cells #[.int .i64 a1_0, .int .i64 a1_1, .int .i64 a1_2] 32 (0, 0))) ∧ Aside0 (Below w.heap.size w wc))
          case first =>
            have H := HC25.out
            clear HC25
            by_cases c33 : a2 = a1_0
            · rw [if_pos c33] at H
              have c33b0 : (a2 == a1_0) = true := beq_iff_eq.mpr c33
              have c33b1 : (a2 != a1_0) = false := bne_eq_false_iff_eq.mpr c33
              clear c33
              (first | rw [c33b0] | (simp only [i64_w, i32_w]; rw [c33b0]) | skip)
              have H' := Aside0.mk H
              clear H
              have hcz34_0 : w31.cell? ⟨gb401, 0, none⟩ = some (.int .i64 a1_0) := (blk_cell BK401.out 0).trans rfl
              have hcz34_1 : w31.cell? ⟨gb401, 1, none⟩ = some (.int .i64 a1_1) := (blk_cell BK401.out 1).trans rfl
              have hcz34_2 : w31.cell? ⟨gb401, 2, none⟩ = some (.int .i64 a1_2) := (blk_cell BK401.out 2).trans rfl
              have hfz34_0 := blk_frozen BK401.out 0
              have hfz34_1 := blk_frozen BK401.out 1
              have hfz34_2 := blk_frozen BK401.out 2
              go_wp2
              go_meet
              case rel => exact ⟨_, (wrap64 (a1_2 - a1_1)), (by first | rfl | (simp; done) | (simp [*]; done)), H', ⟨by have := HJ7.out; first | omega | exact Nat.le_refl _⟩, ⟨by (with_reducible repeat (first | apply Kd.R_alloc | apply Kd.R_drewN | apply Kd.R_drew)); exact Kd.R_mono HO_7.out (fun _ hk => ⟨hk.1.1.1, ⟨hk.2, hk.1.1.2⟩⟩)⟩, ⟨by (with_reducible repeat (first | apply Kd.R_alloc | apply Kd.R_drewN | apply Kd.R_drew)); exact Kd.R_mono HO_9.out (fun _ hk => ⟨hk.1.1.1, ⟨hk.2, hk.1.1.2⟩⟩)⟩, ⟨by (with_reducible repeat (first | apply Kd.R_alloc | apply Kd.R_drewN | apply Kd.R_drew)); exact Kd.R_mono HO423.out (fun _ hk => ⟨hk.1.1.1.2, ⟨hk.1.1.2, hk.2⟩⟩)⟩, ⟨by (with_reducible repeat (first | refine blk_drewN ?_ _ | refine blk_drew ?_ | refine blk_alloc ?_ _)); exact BK401.out⟩, ⟨by repeat (first | (with_reducible first | exact HB.out | apply below_alloc | apply pw_below_drewN | apply below_drew1 | refine below_set ?_ GE401.out) | exact HB.out)⟩⟩
            · rw [if_neg c33] at H
              have c33b0 : (a2 == a1_0) = false := beq_eq_false_iff_ne.mpr c33
              have c33b1 : (a2 != a1_0) = true := bne_iff_ne.mpr c33
              (first | rw [c33b0] | (simp only [i64_w, i32_w]; rw [c33b0]) | skip)
              have H' := Aside0.mk H
              clear H
              go_wp2
              go_meet
              case rel => exact ⟨_, (0), (by first | rfl | (simp; done) | (simp [*]; done)), H', ⟨by have := HJ7.out; first | omega | exact Nat.le_refl _⟩, ⟨by (with_reducible repeat (first | apply Kd.R_alloc | apply Kd.R_drewN | apply Kd.R_drew)); exact Kd.R_mono HO_7.out (fun _ hk => ⟨hk.1.1.1, ⟨hk.2, hk.1.1.2⟩⟩)⟩, ⟨by (with_reducible repeat (first | apply Kd.R_alloc | apply Kd.R_drewN | apply Kd.R_drew)); exact Kd.R_mono HO_9.out (fun _ hk => ⟨hk.1.1.1, ⟨hk.2, hk.1.1.2⟩⟩)⟩, ⟨by (with_reducible repeat (first | apply Kd.R_alloc | apply Kd.R_drewN | apply Kd.R_drew)); exact Kd.R_mono HO423.out (fun _ hk => ⟨hk.1.1.1.2, ⟨hk.1.1.2, hk.2⟩⟩)⟩, ⟨by (with_reducible repeat (first | refine blk_drewN ?_ _ | refine blk_drew ?_ | refine blk_alloc ?_ _)); exact BK401.out⟩, ⟨by repeat (first | (with_reducible first | exact HB.out | apply below_alloc | apply pw_below_drewN | apply below_drew1 | refine below_set ?_ GE401.out) | exact HB.out)⟩⟩
          case rest =>
            clear HC25
            try clear c1
            try clear c2
            try clear p2
            try clear c3
            try clear c4
            try clear c4b0
            try clear c4b1
            try clear c6
            try clear p6
            try clear c12
            try clear c14
            try clear c19
            try clear c20
            try clear c20b0
            try clear c20b1
            try clear c21
            try clear c33
            try clear c33b0
            try clear c33b1
            try clear hcz10_0
            try clear hcz10_1
            try clear hcz10_2
            try clear hcz15_0
            try clear hcz15_1
            try clear hcz15_2
            try clear hcz26_0
            try clear hcz26_1
            try clear hcz26_2
            try clear hcz32_0
            try clear hcz32_1
            try clear hcz32_2
            try clear hcz34_0
            try clear hcz34_1
            try clear hcz34_2
            try clear hfz10_0
            try clear hfz10_1
            try clear hfz10_2
            try clear hfz15_0
            try clear hfz15_1
            try clear hfz15_2
            try clear hfz26_0
            try clear hfz26_1
            try clear hfz26_2
            try clear hfz32_0
            try clear hfz32_1
            try clear hfz32_2
            try clear hfz34_0
            try clear hfz34_1
            try clear hfz34_2
            try clear p2
            obtain ⟨kq, x13_24, rfl, HA, HJ24, HO_7, HO_9, HO_11, BK401, HB⟩ := hcut
            cases kq with
            | zero => exact absurd HA.out (by simp [watchmanlaw10_MuteTotal.j1])
            | succ kj24 =>
              have H := HA.out
              clear HA
              simp only [watchmanlaw10_MuteTotal.j1] at H
              replace H := Option.bind_eq_some_iff.mp H
              obtain ⟨t424, A350, H⟩ := H
              replace H : (if t424 = true then (if t421 = 0 then ((watchmanref10_Same.f kj24 t420 t412).bind fun t425 => (if t425 = true then ((mute_Total.f kj24 t405 a2).bind fun t426 => ((mute_Total.f kj24 t412 a2).bind fun t427 => (some (t426 == (wrap64 (t427 + x13_24)))))) else (none))) else (none)) else (none)) = some r := H
              have A35 := Aside0.mk A350
              clear A350
              by_cases c36 : t424 = true
              · subst c36
                have H1 : (if t421 = 0 then ((watchmanref10_Same.f kj24 t420 t412).bind fun t425 => (if t425 = true then ((mute_Total.f kj24 t405 a2).bind fun t426 => ((mute_Total.f kj24 t412 a2).bind fun t427 => (some (t426 == (wrap64 (t427 + x13_24)))))) else (none))) else (none)) = some r := by rw [if_pos rfl] at H; exact H
                clear H
                have H := H1
                clear H1
                by_cases c37 : t421 = 0
                · rw [if_pos c37] at H
                  have c37b0 : (t421 == 0) = true := beq_iff_eq.mpr c37
                  have c37b1 : (t421 != 0) = false := bne_eq_false_iff_eq.mpr c37
                  clear c37
                  replace H := Option.bind_eq_some_iff.mp H
                  obtain ⟨t425, A380, H⟩ := H
                  replace H : (if t425 = true then ((mute_Total.f kj24 t405 a2).bind fun t426 => ((mute_Total.f kj24 t412 a2).bind fun t427 => (some (t426 == (wrap64 (t427 + x13_24)))))) else (none)) = some r := H
                  have A38 := Aside0.mk A380
                  clear A380
                  by_cases c39 : t425 = true
                  · subst c39
                    have H1 : ((mute_Total.f kj24 t405 a2).bind fun t426 => ((mute_Total.f kj24 t412 a2).bind fun t427 => (some (t426 == (wrap64 (t427 + x13_24)))))) = some r := by rw [if_pos rfl] at H; exact H
                    clear H
                    have H := H1
                    clear H1
                    replace H := Option.bind_eq_some_iff.mp H
                    obtain ⟨t426, A400, H⟩ := H
                    replace H : ((mute_Total.f kj24 t412 a2).bind fun t427 => (some (t426 == (wrap64 (t427 + x13_24))))) = some r := H
                    have A40 := Aside0.mk A400
                    clear A400
                    replace H := Option.bind_eq_some_iff.mp H
                    obtain ⟨t427, A410, H⟩ := H
                    replace H : (some (t426 == (wrap64 (t427 + x13_24)))) = some r := H
                    have A41 := Aside0.mk A410
                    clear A410
                    obtain rfl := Option.some.inj H
                    go_wp2_with (first | ((with_reducible refine gate_callee (f := 19) rfl ?_); refine goesL_ (some 54) rfl rfl Try.func19 (by kernel_rfl) rfl #[] rfl (by (try simp only [List.map_toArray, List.map_cons, List.map_nil]); first | done | rfl | (simp only [List.length_drop, List.length_take]; rfl)) ?_; (with_reducible refine (watchmanlaw10_muted.calls kj24  true _ A35.out).mono ?_); rintro e w42 ⟨rfl, hb⟩; refine ⟨_, rfl, ?_⟩; have n0_ := Aside0.mk (Kd.R_below (by (with_reducible repeat (first | apply Kd.R_alloc | apply Kd.R_drewN | apply Kd.R_drew)); exact HO_7.out) hb); have n1_ := Aside0.mk (Kd.R_below (by (with_reducible repeat (first | apply Kd.R_alloc | apply Kd.R_drewN | apply Kd.R_drew)); exact HO_9.out) hb); have n2_ := Aside0.mk (Kd.R_below (by (with_reducible repeat (first | apply Kd.R_alloc | apply Kd.R_drewN | apply Kd.R_drew)); exact HO_11.out) hb); have n3_ := Aside0.mk (blk_below (g := gb401) (o := .cells #[.int .i64 a1_0, .int .i64 a1_1, .int .i64 a1_2] 32 (0, 0)) (by (with_reducible repeat (first | refine blk_drewN ?_ _ | refine blk_drew ?_ | refine blk_alloc ?_ _)); exact BK401.out) hb); have n4_ := Aside0.mk (below_step (by repeat (first | (with_reducible first | exact HB.out | apply below_alloc | apply pw_below_drewN | apply below_drew1 | refine below_set ?_ GE401.out) | exact HB.out)) hb); clear HO_7; clear HO_9; clear HO_11; clear BK401; clear HB; have HO_7 := n0_; have HO_9 := n1_; have HO_11 := n2_; have BK401 := n3_; have HB := n4_; clear n0_ n1_ n2_ n3_ n4_; (try clear hb); (try clear hb2); (try clear hk); (try clear hi); obtain ⟨Ao43, co43, eo43⟩ := Kd.R_slice HO_11.out; subst eo43; obtain ⟨Ao44, co44, eo44⟩ := Kd.R_slice HO_9.out; subst eo44) | (go_at_call 18; (with_reducible refine (watchmanref10_Same.calls kj24 _ _ t420 _ _ t412 true _ ?side1 ?side2 ?side3 ?side4 A38.out).mono ?_); (case side1 => repeat (first | exact (Kd.R_reads' HO_11.out).2.2 | (with_reducible refine Kd.C_alloc ?_ _) | (with_reducible refine Kd.C_drewN ?_ _) | (with_reducible refine Kd.C_drew ?_))); (case side2 => exact (Kd.R_reads' HO_11.out).2.1); (case side3 => repeat (first | exact (Kd.R_reads' HO_9.out).2.2 | (with_reducible refine Kd.C_alloc ?_ _) | (with_reducible refine Kd.C_drewN ?_ _) | (with_reducible refine Kd.C_drew ?_))); (case side4 => exact (Kd.R_reads' HO_9.out).2.1); rintro e w' ⟨rfl, ⟨nd, rfl⟩⟩) | (go_at_call 24; (with_reducible refine (mute_Total.calls kj24 _ _ t405 a2 t426 _ ?side1 ?side2 A40.out).mono ?_); (case side1 => repeat (first | exact (Kd.R_reads' HO_7.out).2.2 | (with_reducible refine Kd.C_alloc ?_ _) | (with_reducible refine Kd.C_drewN ?_ _) | (with_reducible refine Kd.C_drew ?_))); (case side2 => exact (Kd.R_reads' HO_7.out).2.1); rintro e w45 ⟨rfl, hb⟩; have n0_ := Aside0.mk (Kd.R_below (by (with_reducible repeat (first | apply Kd.R_alloc | apply Kd.R_drewN | apply Kd.R_drew)); exact HO_7.out) hb); have n1_ := Aside0.mk (Kd.R_below (by (with_reducible repeat (first | apply Kd.R_alloc | apply Kd.R_drewN | apply Kd.R_drew)); exact HO_9.out) hb); have n2_ := Aside0.mk (Kd.R_below (by (with_reducible repeat (first | apply Kd.R_alloc | apply Kd.R_drewN | apply Kd.R_drew)); exact HO_11.out) hb); have n3_ := Aside0.mk (blk_below (g := gb401) (o := .cells #[.int .i64 a1_0, .int .i64 a1_1, .int .i64 a1_2] 32 (0, 0)) (by (with_reducible repeat (first | refine blk_drewN ?_ _ | refine blk_drew ?_ | refine blk_alloc ?_ _)); exact BK401.out) hb); have n4_ := Aside0.mk (below_step (by repeat (first | (with_reducible first | exact HB.out | apply below_alloc | apply pw_below_drewN | apply below_drew1 | refine below_set ?_ GE401.out) | exact HB.out)) hb); clear HO_7; clear HO_9; clear HO_11; clear BK401; clear HB; have HO_7 := n0_; have HO_9 := n1_; have HO_11 := n2_; have BK401 := n3_; have HB := n4_; clear n0_ n1_ n2_ n3_ n4_; (try clear hb); (try clear hb2); (try clear hk); (try clear hi)) | (go_at_call 24; (with_reducible refine (mute_Total.calls kj24 _ _ t412 a2 t427 _ ?side1 ?side2 A41.out).mono ?_); (case side1 => repeat (first | exact (Kd.R_reads' HO_9.out).2.2 | (with_reducible refine Kd.C_alloc ?_ _) | (with_reducible refine Kd.C_drewN ?_ _) | (with_reducible refine Kd.C_drew ?_))); (case side2 => exact (Kd.R_reads' HO_9.out).2.1); rintro e w46 ⟨rfl, hb⟩; have n0_ := Aside0.mk (Kd.R_below (by (with_reducible repeat (first | apply Kd.R_alloc | apply Kd.R_drewN | apply Kd.R_drew)); exact HO_7.out) hb); have n1_ := Aside0.mk (Kd.R_below (by (with_reducible repeat (first | apply Kd.R_alloc | apply Kd.R_drewN | apply Kd.R_drew)); exact HO_9.out) hb); have n2_ := Aside0.mk (Kd.R_below (by (with_reducible repeat (first | apply Kd.R_alloc | apply Kd.R_drewN | apply Kd.R_drew)); exact HO_11.out) hb); have n3_ := Aside0.mk (blk_below (g := gb401) (o := .cells #[.int .i64 a1_0, .int .i64 a1_1, .int .i64 a1_2] 32 (0, 0)) (by (with_reducible repeat (first | refine blk_drewN ?_ _ | refine blk_drew ?_ | refine blk_alloc ?_ _)); exact BK401.out) hb); have n4_ := Aside0.mk (below_step (by repeat (first | (with_reducible first | exact HB.out | apply below_alloc | apply pw_below_drewN | apply below_drew1 | refine below_set ?_ GE401.out) | exact HB.out)) hb); clear HO_7; clear HO_9; clear HO_11; clear BK401; clear HB; have HO_7 := n0_; have HO_9 := n1_; have HO_11 := n2_; have BK401 := n3_; have HB := n4_; clear n0_ n1_ n2_ n3_ n4_; (try clear hb); (try clear hb2); (try clear hk); (try clear hi)))
                    go_ret
                    exact ⟨by first | rfl | (simp [errW_none, errW_some] <;> rfl) | (simp [*, errW_none, errW_some] <;> rfl), by repeat (first | (with_reducible first | exact HB.out | apply below_alloc | apply pw_below_drewN | apply below_drew1 | refine below_set ?_ GE401.out) | exact HB.out)⟩
                  · replace c39 := Bool.eq_false_iff.mpr c39
                    subst c39
                    have H1 : (none) = some r := by rw [if_neg (show ¬ (false = true) by decide)] at H; exact H
                    clear H
                    have H := H1
                    clear H1
                    exact absurd H (by simp)
                · rw [if_neg c37] at H
                  exact absurd H (by simp)
              · replace c36 := Bool.eq_false_iff.mpr c36
                subst c36
                have H1 : (none) = some r := by rw [if_neg (show ¬ (false = true) by decide)] at H; exact H
                clear H
                have H := H1
                clear H1
                exact absurd H (by simp)
end Go.Proofs.Ytaooefnmdlajcaa.P

namespace Go.Proofs.Ytaooefnmdlajcaa.P
open Go.RowKit Go.Proofs.YtaooefnmdlajcaaW.PrintWords Go.Proofs.YtaooefnmdlajcaaW.PrintLast Go.Proofs.YtaooefnmdlajcaaW.PrintMore
attribute [local go_sem] max2_int min2_int max_two min_two max_three min_three max_four min_four
set_option linter.unusedVariables false
set_option linter.unusedSimpArgs false
end Go.Proofs.Ytaooefnmdlajcaa.P

set_option linter.unusedVariables false
set_option linter.unusedSimpArgs false
namespace Go.Proofs.Ytaooefnmdlajcaa.P
open Go.RowKit Go.Proofs.YtaooefnmdlajcaaW.PrintWords Go.Proofs.YtaooefnmdlajcaaW.PrintLast Go.Proofs.YtaooefnmdlajcaaW.PrintMore
theorem Ev.succ {α : Type} {g : Nat → Option α} {r : α} (h : Ev (fun k => g (k + 1)) r) : Ev g r := Ev.step (fun _ => rfl) h
theorem Ev.some {α : Type} {g : Nat → Option α} {r : α} (h : ∀ k, g k = some r) : Ev g r := ⟨0, fun k _ => h k⟩
theorem w64 {x : Int} (h : -9223372036854775808 ≤ x ∧ x ≤ 9223372036854775807) : wrap64 x = x := by unfold wrap64; omega
theorem rdW (L : List S32) {i : Nat} (h : i < L.length) : rd_T32 L (i : Int) = L[i] := by simp [rd_T32, h]
theorem notMay_iff (w : Win) : notMay w = true ↔ ¬ May w := by
  unfold notMay May
  simp only [Bool.cond_eq_ite, decide_eq_true_eq]
  repeat' split
  all_goals first | (simp; omega) | omega
theorem idxS_lt {p : Win → Bool} : ∀ {l : List Win}, idxS p l < l.length ↔ ∃ x ∈ l, p x = true
  | [] => by simp [idxS]
  | x :: l => by
    have ih := @idxS_lt p l
    simp only [idxS, List.length_cons, List.mem_cons, or_and_right, exists_or, exists_eq_left]
    cases hx : p x with
    | true => simp [hx]
    | false => simp only [cond_false, Nat.add_lt_add_iff_right, ih, Bool.false_eq_true, false_or]
theorem idxI_ge {p : Win → Bool} {l : List Win} : idxI p l ≥ 0 ↔ ∃ x ∈ l, p x = true := by
  rw [← idxS_lt]
  unfold idxI
  by_cases h : idxS p l < l.length
  · simp [h]
  · simp [h]
instance : DecidablePred May := fun w => inferInstance
theorem all_f (l : List S32) (h : l.length ≤ 1000000) : mute_all.f l = some (decide (∀ w ∈ l.map toW, May w)) := by
  unfold mute_all.f
  rw [if_pos h]
  congr 1
  rw [Bool.eq_iff_iff, Bool.not_eq_true', decide_eq_false_iff_not, idxI_ge, decide_eq_true_iff]
  constructor
  · intro h w hw
    refine Decidable.byContradiction fun hn => h ⟨w, hw, (notMay_iff w).2 hn⟩
  · rintro h ⟨w, hw, hn⟩
    exact (notMay_iff w).1 hn (h w hw)
instance hasDec (l : List Win) (b t : Int) : Decidable (Has l b t) := inferInstanceAs (Decidable (∃ w ∈ l, HasW w b t))
theorem may_eq (x : S32) : May (toW x) ↔ 1 ≤ x.f0 ∧ x.f0 ≤ 99 ∧ 0 ≤ x.f1 ∧ x.f1 < x.f2 ∧ x.f2 ≤ 1000000000 := Iff.rfl
def Adj (l : List S32) (i : Nat) : Prop := ∀ j, i ≤ j → ∀ (h : j < l.length), 1 ≤ j → Lt (toW l[j - 1]) (toW l[j])
theorem adj_step {l : List S32} {i : Nat} (h : i < l.length) (h1 : 1 ≤ i) : Adj l i ↔ Lt (toW l[i - 1]) (toW l[i]) ∧ Adj l (i + 1) := by
  constructor
  · intro a; exact ⟨a i (Nat.le_refl _) h h1, fun j hj => a j (by omega)⟩
  · rintro ⟨a, b⟩ j hj hl h1
    rcases Nat.eq_or_lt_of_le hj with rfl | hj
    · exact a
    · exact b j hj hl h1
theorem adj_over {l : List S32} {i : Nat} (h : l.length ≤ i) : Adj l i := fun j hj hl => by omega
theorem good_iff (l : List S32) : Good (l.map toW) ↔ Adj l 1 ∧ ∀ w ∈ l.map toW, May w := by
  unfold Good Canon
  constructor
  · rintro ⟨⟨h1, h2⟩, h3⟩
    refine ⟨fun j hj hl _ => ?_, h3⟩
    have := List.pairwise_iff_getElem.1 h1 (j - 1) j (by simp; omega) (by simpa using hl) (by omega)
    simpa using this
  · rintro ⟨a, m⟩
    refine ⟨⟨?_, fun w hw => (m w hw).lt⟩, m⟩
    refine List.pairwise_iff_getElem.2 ?_
    have hm : ∀ (i : Nat) (h : i < l.length), (toW l[i]).lo < (toW l[i]).hi := fun i h => (m _ (List.mem_map.2 ⟨l[i], List.getElem_mem h, rfl⟩)).lt
    have key : ∀ (d i j : Nat) (hi : i < l.length) (hj : j < l.length), j = i + d + 1 → Lt (toW l[i]) (toW l[j]) := by
      intro d
      induction d with
      | zero =>
        intro i j hi hj e
        subst e
        have := a (i + 0 + 1) (by omega) hj (by omega)
        simpa using this
      | succ d ih =>
        intro i j hi hj e
        subst e
        have h1 := ih i (i + d + 1) hi (by omega) rfl
        have h2 := a (i + (d + 1) + 1) (by omega) hj (by omega)
        have h3 : l[i + (d + 1) + 1 - 1] = l[i + d + 1] := by congr 1
        rw [h3] at h2
        exact h1.trans' (hm _ _) h2
    intro i j hi hj hij
    simp only [List.getElem_map]
    simp only [List.length_map] at hi hj
    exact key (j - i - 1) i j hi hj (by omega)
noncomputable instance (l : List S32) (i : Nat) : Decidable (Adj l i) := Classical.propDecidable _
noncomputable instance (l : List Win) : Decidable (Good l) := Classical.propDecidable _
theorem is_l0 (l : List S32) (hl : l.length ≤ 1000000) : ∀ (d i : Nat), l.length - i = d → 1 ≤ i → Ev (fun k => mute_Is.l0 k l (i : Int)) (decide (l.length ≤ 100 ∧ Adj l i ∧ ∀ w ∈ l.map toW, May w))
  | 0, i, hd, h1 => by
    refine Ev.succ ?_
    simp only [mute_Is.l0, if_neg (show ¬ ((i : Int) < (l.length : Int)) by omega)]
    by_cases h : l.length ≤ 100
    · simp only [if_pos (show (l.length : Int) ≤ 100 by omega), all_f l hl, Option.bind_some]
      refine Ev.some fun k => ?_
      congr 1
      rw [decide_eq_decide]
      exact ⟨fun m => ⟨h, adj_over (by omega), m⟩, fun m => m.2.2⟩
    · simp only [if_neg (show ¬ ((l.length : Int) ≤ 100) by omega)]
      exact Ev.some fun k => by rw [decide_eq_false (fun m => h m.1)]
  | d + 1, i, hd, h1 => by
    have hi : i < l.length := by omega
    refine Ev.succ ?_
    have e1 : wrap64 ((i : Int) - 1) = ((i - 1 : Nat) : Int) := by rw [w64 (by omega)]; omega
    have e2 : wrap64 ((i : Int) + 1) = ((i + 1 : Nat) : Int) := by rw [w64 (by omega)]; omega
    simp only [mute_Is.l0, if_pos (show (i : Int) < (l.length : Int) by omega), e1, e2, if_pos (show (0 : Int) ≤ ((i - 1 : Nat) : Int) by omega), if_pos (show ((i - 1 : Nat) : Int) < (l.length : Int) by omega), if_pos (show (0 : Int) ≤ (i : Int) by omega), rdW l hi, rdW l (show i - 1 < l.length by omega)]
    have st := adj_step hi h1
    have ih := is_l0 l hl d (i + 1) (by omega) (by omega)
    by_cases c1 : l[i - 1].f0 > l[i].f0
    · simp only [if_pos c1]
      refine Ev.some fun k => ?_
      rw [decide_eq_false]
      rintro ⟨_, a, _⟩
      rcases (st.1 a).1 with h | ⟨h, _⟩
      · exact absurd h (show ¬ (l[i - 1].f0 < l[i].f0) by omega)
      · exact absurd h (show ¬ (l[i - 1].f0 = l[i].f0) by omega)
    · simp only [if_neg c1]
      by_cases c2 : l[i - 1].f0 = l[i].f0
      · simp only [if_pos c2]
        by_cases c3 : l[i - 1].f2 ≥ l[i].f1
        · simp only [if_pos c3]
          refine Ev.some fun k => ?_
          rw [decide_eq_false]
          rintro ⟨_, a, _⟩
          rcases (st.1 a).1 with h | ⟨_, h⟩
          · exact absurd h (show ¬ (l[i - 1].f0 < l[i].f0) by omega)
          · exact absurd h (show ¬ (l[i - 1].f2 < l[i].f1) by omega)
        · simp only [if_neg c3]
          have hL : Lt (toW l[i - 1]) (toW l[i]) := .inr ⟨c2, show l[i - 1].f2 < l[i].f1 by omega⟩
          rw [show (decide (l.length ≤ 100 ∧ Adj l i ∧ ∀ w ∈ l.map toW, May w)) = decide (l.length ≤ 100 ∧ Adj l (i + 1) ∧ ∀ w ∈ l.map toW, May w) by
            rw [decide_eq_decide, st]; simp [hL]]
          exact ih
      · simp only [if_neg c2]
        have hL : Lt (toW l[i - 1]) (toW l[i]) := .inl (show l[i - 1].f0 < l[i].f0 by omega)
        rw [show (decide (l.length ≤ 100 ∧ Adj l i ∧ ∀ w ∈ l.map toW, May w)) = decide (l.length ≤ 100 ∧ Adj l (i + 1) ∧ ∀ w ∈ l.map toW, May w) by
          rw [decide_eq_decide, st]; simp [hL]]
        exact ih
abbrev Right (l : List S32) : Prop := l.length ≤ 100 ∧ Good (l.map toW)
theorem is_ev (l : List S32) (hl : l.length ≤ 1000000) : Ev (fun k => mute_Is.f k l) (decide (Right l)) := by
  have := is_l0 l hl _ 1 rfl (Nat.le_refl _)
  rw [show decide (Right l) = decide (l.length ≤ 100 ∧ Adj l 1 ∧ ∀ w ∈ l.map toW, May w) by rw [decide_eq_decide]; unfold Right; rw [good_iff]]
  exact this
theorem told_f (l : List S32) : mute_told.f l = some (if l.length > 100 then (([] : List S32), (81 : Int)) else (l, 0)) := by
  unfold mute_told.f
  by_cases h : l.length > 100
  · rw [if_pos (show (l.length : Int) > 100 by omega), if_pos h]
  · rw [if_neg (show ¬ ((l.length : Int) > 100) by omega), if_neg h]
theorem ofW_len (l : List Win) : (l.map ofW).length = l.length := List.length_map _
def toldW (l : List Win) : List S32 × Int := if l.length > 100 then ([], 81) else (l.map ofW, 0)
noncomputable def addR (l m : List S32) : List S32 × Int := if Right l ∧ ∀ w ∈ m.map toW, May w then toldW (joinW (l.map toW ++ m.map toW)) else ([], 1)
theorem told_map (l : List Win) : mute_told.f (l.map ofW) = some (toldW l) := by
  rw [told_f, ofW_len]; rfl
theorem add_ev (l m : List S32) (hl : l.length ≤ 500000) (hm : m.length ≤ 500000) : Ev (fun k => mute_Add.f k l m) (addR l m) := by
  unfold mute_Add.f addR
  refine Ev.bind (is_ev l (by omega)) ?_
  by_cases h : Right l
  · simp only [decide_eq_true h, if_true, all_f m (by omega), Option.bind_some]
    by_cases h2 : ∀ w ∈ m.map toW, May w
    · rw [if_pos ⟨h, h2⟩]
      simp only [decide_eq_true h2, Bool.not_true]
      refine Ev.succ ?_
      simp only [mute_Add.j0, Bool.false_eq_true, if_false]
      have hlt : ∀ x ∈ l ++ m, x.f1 < x.f2 := by
        intro x hx
        rcases List.mem_append.1 hx with hx | hx
        · exact (h.2.2 (toW x) (List.mem_map.2 ⟨x, hx, rfl⟩)).lt
        · exact (h2 (toW x) (List.mem_map.2 ⟨x, hx, rfl⟩)).lt
      simp only [api_Window_40.f, if_pos (show l.length + m.length ≤ 1000000 by omega), Option.bind_some, mute_joined.f, if_pos (show (l ++ m).length ≤ 1000000 ∧ ∀ x ∈ l ++ m, x.f1 < x.f2 from ⟨by simp; omega, hlt⟩), told_map, List.map_append]
      exact Ev.some fun k => rfl
    · rw [if_neg (fun h' => h2 h'.2)]
      simp only [decide_eq_false h2, Bool.not_false]
      refine Ev.succ ?_
      simp only [mute_Add.j0, if_true]
      exact Ev.some fun k => rfl
  · rw [if_neg (fun h' => h h'.1)]
    simp only [decide_eq_false h, Bool.false_eq_true, if_false]
    refine Ev.succ ?_
    simp only [mute_Add.j0, if_true]
    exact Ev.some fun k => rfl
end Go.Proofs.Ytaooefnmdlajcaa.P

set_option linter.unusedVariables false
set_option linter.unusedSimpArgs false
namespace Go.Proofs.Ytaooefnmdlajcaa.P
open Go.RowKit Go.Proofs.YtaooefnmdlajcaaW.PrintWords Go.Proofs.YtaooefnmdlajcaaW.PrintLast Go.Proofs.YtaooefnmdlajcaaW.PrintMore
def withoutS (a b : S32) : List S32 := (withoutW (toW a) (toW b)).map ofW
theorem withoutW_len (a b : Win) : (withoutW a b).length ≤ 2 := by
  unfold withoutW
  repeat' split
  all_goals simp
theorem withoutS_len (a b : S32) : (withoutS a b).length ≤ 2 := by unfold withoutS; rw [List.length_map]; exact withoutW_len _ _
theorem without_ev (a b : S32) : Ev (fun k => mute_without.f k a.f0 a.f1 a.f2 b.f0 b.f1 b.f2) (withoutS a b) := by
  unfold mute_without.f withoutS withoutW
  by_cases c : a.f0 ≠ b.f0 ∨ b.f2 ≤ a.f1 ∨ a.f2 ≤ b.f1
  · rw [if_pos (show (toW a).bed ≠ (toW b).bed ∨ (toW b).hi ≤ (toW a).lo ∨ (toW a).hi ≤ (toW b).lo from c)]
    by_cases c0 : a.f0 = b.f0
    · simp only [if_pos c0]
      by_cases c1 : b.f2 ≤ a.f1
      · simp only [if_pos c1]
        refine Ev.succ ?_
        simp only [mute_without.j0, if_true]
        exact Ev.some fun k => rfl
      · simp only [if_neg c1, decide_eq_true (show a.f2 ≤ b.f1 by omega)]
        refine Ev.succ ?_
        simp only [mute_without.j0, if_true]
        exact Ev.some fun k => rfl
    · simp only [if_neg c0]
      refine Ev.succ ?_
      simp only [mute_without.j0, if_true]
      exact Ev.some fun k => rfl
  · rw [if_neg (show ¬ ((toW a).bed ≠ (toW b).bed ∨ (toW b).hi ≤ (toW a).lo ∨ (toW a).hi ≤ (toW b).lo) from c)]
    have c0 : a.f0 = b.f0 := by omega
    have c1 : ¬ b.f2 ≤ a.f1 := by omega
    have c2 : ¬ a.f2 ≤ b.f1 := by omega
    simp only [if_pos c0, if_neg c1, decide_eq_false c2]
    refine Ev.succ ?_
    simp only [mute_without.j0, Bool.false_eq_true, if_false, List.length_nil, if_pos (show (0 : Nat) < 5864062014805 by decide), Option.bind_some, List.nil_append, List.length_cons, if_pos (show (0 + 1 : Nat) < 5864062014805 by decide)]
    by_cases c3 : a.f1 < b.f1
    · by_cases c4 : b.f2 < a.f2
      · simp only [if_pos c3, if_pos c4, if_pos (show (toW a).lo < (toW b).lo from c3), if_pos (show (toW b).hi < (toW a).hi from c4)]
        exact Ev.some fun k => rfl
      · simp only [if_pos c3, if_neg c4, if_pos (show (toW a).lo < (toW b).lo from c3), if_neg (show ¬ (toW b).hi < (toW a).hi from c4)]
        exact Ev.some fun k => rfl
    · by_cases c4 : b.f2 < a.f2
      · simp only [if_neg c3, if_pos c4, if_neg (show ¬ (toW a).lo < (toW b).lo from c3), if_pos (show (toW b).hi < (toW a).hi from c4)]
        exact Ev.some fun k => rfl
      · simp only [if_neg c3, if_neg c4, if_neg (show ¬ (toW a).lo < (toW b).lo from c3), if_neg (show ¬ (toW b).hi < (toW a).hi from c4)]
        exact Ev.some fun k => rfl
def cutS (l : List S32) (b : S32) : List S32 := l.flatMap (withoutS · b)
theorem cutS_toW (l : List S32) (b : S32) : (cutS l b).map toW = cut1 (l.map toW) (toW b) := by
  unfold cutS cut1
  rw [List.map_flatMap, List.flatMap_map]
  congr 1
  funext a
  exact map_toW _
theorem cutS_len (b : S32) : ∀ l : List S32, (cutS l b).length ≤ 2 * l.length
  | [] => by simp [cutS]
  | a :: l => by
    have := cutS_len b l
    have h2 := withoutS_len a b
    unfold cutS at *
    rw [List.flatMap_cons, List.length_append, List.length_cons]
    omega
theorem cut_l1 (m : List S32) (j : Nat) (l : List S32) (b : S32) (hl : l.length ≤ 1000000000000) (r : List S32 × Int) (hj : j ≤ 1000000) :
    ∀ (d i : Nat) (acc : List S32), l.length - i = d → i ≤ l.length → acc.length ≤ 2 * i → Ev (fun k => mute_Cut.l0 k (acc ++ (l.drop i).flatMap (withoutS · b)) m (m.length : Int) ((j + 1 : Nat) : Int)) r →
      Ev (fun k => mute_Cut.l1 k acc m (m.length : Int) (j : Int) l (l.length : Int) (i : Int) b.f0 b.f1 b.f2) r
  | 0, i, acc, hd, hi, ha, h => by
    refine Ev.succ ?_
    simp only [mute_Cut.l1, if_neg (show ¬ ((i : Int) < (l.length : Int)) by omega), w64 (show -9223372036854775808 ≤ (j : Int) + 1 ∧ (j : Int) + 1 ≤ 9223372036854775807 by omega)]
    rw [List.drop_eq_nil_of_le (by omega), List.flatMap_nil, List.append_nil] at h
    exact h
  | d + 1, i, acc, hd, hi, ha, h => by
    have hx : i < l.length := by omega
    refine Ev.succ ?_
    have e2 : wrap64 ((i : Int) + 1) = ((i + 1 : Nat) : Int) := by rw [w64 (by omega)]; omega
    simp only [mute_Cut.l1, if_pos (show (i : Int) < (l.length : Int) by omega), if_pos (show (0 : Int) ≤ (i : Int) by omega), rdW l hx, e2]
    refine Ev.bind (without_ev l[i] b) ?_
    have h2 := withoutS_len l[i] b
    simp only [if_pos (show acc.length + (withoutS l[i] b).length < 5864062014805 by omega)]
    refine cut_l1 m j l b hl r hj d (i + 1) (acc ++ withoutS l[i] b) (by omega) (by omega) (by rw [List.length_append]; omega) ?_
    rw [List.drop_eq_getElem_cons hx, List.flatMap_cons, ← List.append_assoc] at h
    exact h
theorem cut_l0 (m : List S32) (hm : m.length ≤ 1000000) : ∀ (d j : Nat) (l : List S32), m.length - j = d → j ≤ m.length → l.length * 2 ^ d ≤ 1000000000000 →
    Ev (fun k => mute_Cut.l0 k l m (m.length : Int) (j : Int)) (toldW (((m.drop j).map toW).foldl cut1 (l.map toW)))
  | 0, j, l, hd, hj, hl => by
    refine Ev.succ ?_
    simp only [mute_Cut.l0, if_neg (show ¬ ((j : Int) < (m.length : Int)) by omega)]
    rw [List.drop_eq_nil_of_le (by omega)]
    have := told_map (l.map toW)
    rw [map_ofW] at this
    simp only [this, Option.bind_some, List.map_nil, List.foldl_nil]
    exact Ev.some fun k => rfl
  | d + 1, j, l, hd, hj, hl => by
    have hx : j < m.length := by omega
    have hl2 : l.length * 2 * 2 ^ d ≤ 1000000000000 := by rw [Nat.pow_succ, ← Nat.mul_assoc, Nat.mul_right_comm] at hl; exact hl
    have hp : 1 ≤ 2 ^ d := Nat.one_le_two_pow
    have hl1 : l.length ≤ 1000000000000 := by
      have := Nat.le_mul_of_pos_right (l.length * 2) (show 0 < 2 ^ d by omega)
      omega
    refine Ev.succ ?_
    simp only [mute_Cut.l0, if_pos (show (j : Int) < (m.length : Int) by omega), if_pos (show (0 : Int) ≤ (j : Int) by omega), rdW m hx]
    refine cut_l1 m j l m[j] hl1 _ (by omega) _ 0 [] rfl (Nat.zero_le _) (Nat.le_refl _) ?_
    have := cut_l0 m hm d (j + 1) (cutS l m[j]) (by omega) (by omega) (Nat.le_trans (Nat.mul_le_mul_right _ (by have := cutS_len m[j] l; omega)) hl2)
    rw [cutS_toW] at this
    rw [List.drop_eq_getElem_cons hx, List.map_cons, List.foldl_cons, List.drop_zero, List.nil_append]
    exact this
noncomputable def cutR (l m : List S32) : List S32 × Int := if Right l ∧ ∀ w ∈ m.map toW, May w then toldW ((m.map toW).foldl cut1 (l.map toW)) else ([], 1)
theorem clone_f (l : List S32) (hl : l.length ≤ 1000000) : api_Window_42.f l = some l := by
  unfold api_Window_42.f
  simp only [Option.bind_some, List.length_nil, if_pos (show 0 + l.length < 5864062014805 by omega), List.nil_append]
theorem cut_ev (l m : List S32) (hl : l.length ≤ 1000000) (hm : m.length ≤ 30) : Ev (fun k => mute_Cut.f k l m) (cutR l m) := by
  unfold mute_Cut.f cutR
  refine Ev.bind (is_ev l (by omega)) ?_
  by_cases h : Right l
  · simp only [decide_eq_true h, if_true, all_f m (by omega), Option.bind_some]
    by_cases h2 : ∀ w ∈ m.map toW, May w
    · rw [if_pos ⟨h, h2⟩]
      simp only [decide_eq_true h2, Bool.not_true]
      refine Ev.succ ?_
      simp only [mute_Cut.j0, Bool.false_eq_true, if_false, clone_f l hl, Option.bind_some]
      refine cut_l0 m (by omega) _ 0 l rfl (Nat.zero_le _) ?_
      have h1 : 2 ^ (m.length - 0) ≤ 2 ^ 30 := Nat.pow_le_pow_right (by decide) (by omega)
      exact Nat.le_trans (Nat.mul_le_mul h.1 h1) (by decide)
    · rw [if_neg (fun h' => h2 h'.2)]
      simp only [decide_eq_false h2, Bool.not_false]
      refine Ev.succ ?_
      simp only [mute_Cut.j0, if_true]
      exact Ev.some fun k => rfl
  · rw [if_neg (fun h' => h h'.1)]
    simp only [decide_eq_false h, Bool.false_eq_true, if_false]
    refine Ev.succ ?_
    simp only [mute_Cut.j0, if_true]
    exact Ev.some fun k => rfl
noncomputable instance : DecidableEq S32 := fun a b => Classical.propDecidable _
theorem ne_cells (a b : S32) : (!(a.f0 == b.f0) || (!(a.f1 == b.f1) || (!(a.f2 == b.f2)))) = !decide (a = b) := by
  rcases a with ⟨a0, a1, a2⟩
  rcases b with ⟨b0, b1, b2⟩
  rw [Bool.eq_iff_iff]
  simp only [Bool.or_eq_true, Bool.not_eq_true', beq_eq_false_iff_ne, decide_eq_false_iff_not, S32.mk.injEq]
  omega
theorem same_l0 (a b : List S32) (hl : a.length = b.length) (hn : a.length ≤ 1000000) : ∀ (d i : Nat), a.length - i = d → i ≤ a.length → Ev (fun k => watchmanref10_Same.l0 k a b (i : Int)) (decide (a.drop i = b.drop i))
  | 0, i, hd, hi => by
    refine Ev.succ ?_
    simp only [watchmanref10_Same.l0, if_neg (show ¬ ((i : Int) < (a.length : Int)) by omega)]
    rw [List.drop_eq_nil_of_le (by omega), List.drop_eq_nil_of_le (by omega)]
    exact Ev.some fun k => by simp
  | d + 1, i, hd, hi => by
    have hx : i < a.length := by omega
    have hy : i < b.length := by omega
    refine Ev.succ ?_
    have e2 : wrap64 ((i : Int) + 1) = ((i + 1 : Nat) : Int) := by rw [w64 (by omega)]; omega
    simp only [watchmanref10_Same.l0, if_pos (show (i : Int) < (a.length : Int) by omega), if_pos (show (0 : Int) ≤ (i : Int) by omega), if_pos (show (i : Int) < (b.length : Int) by omega), rdW a hx, rdW b hy, e2, ne_cells]
    rw [List.drop_eq_getElem_cons hx, List.drop_eq_getElem_cons hy]
    by_cases q : a[i] = b[i]
    · simp only [decide_eq_true q, Bool.not_true, Bool.false_eq_true, if_false]
      have := same_l0 a b hl hn d (i + 1) (by omega) (by omega)
      rw [show decide (a[i] :: a.drop (i + 1) = b[i] :: b.drop (i + 1)) = decide (a.drop (i + 1) = b.drop (i + 1)) by rw [decide_eq_decide, List.cons.injEq]; simp [q]]
      exact this
    · simp only [decide_eq_false q, Bool.not_false, if_true]
      exact Ev.some fun k => by rw [decide_eq_false]; intro h; exact q (List.cons.inj h).1
theorem same_ev (a b : List S32) (hn : a.length ≤ 1000000) : Ev (fun k => watchmanref10_Same.f k a b) (decide (a = b)) := by
  unfold watchmanref10_Same.f
  by_cases h : a.length = b.length
  · simp only [if_pos (show (a.length : Int) = (b.length : Int) by omega)]
    exact same_l0 a b h hn _ 0 rfl (Nat.zero_le _)
  · simp only [if_neg (show ¬ ((a.length : Int) = (b.length : Int)) by omega)]
    exact Ev.some fun k => by rw [decide_eq_false]; intro e; exact h (by rw [e])
def sumW (b : Int) : List Win → Int
  | [] => 0
  | w :: l => (if w.bed = b then w.hi - w.lo else 0) + sumW b l
theorem sumW_bound (b : Int) : ∀ (l : List Win), (∀ w ∈ l, May w) → 0 ≤ sumW b l ∧ sumW b l ≤ 1000000000 * l.length
  | [], _ => by simp [sumW]
  | w :: l, h => by
    have := sumW_bound b l (fun x hx => h x (by simp [hx]))
    have hw := h w (by simp)
    unfold May at hw
    simp only [sumW, List.length_cons]
    split <;> omega
theorem total_l0 (l : List S32) (b : Int) (hn : l.length ≤ 100) (hm : ∀ w ∈ l.map toW, May w) : ∀ (d i : Nat) (n : Int), l.length - i = d → i ≤ l.length → 0 ≤ n → n ≤ 1000000000 * i →
    Ev (fun k => mute_Total.l0 k b n l (l.length : Int) (i : Int)) (n + sumW b ((l.drop i).map toW))
  | 0, i, n, hd, hi, h0, h1 => by
    refine Ev.succ ?_
    simp only [mute_Total.l0, if_neg (show ¬ ((i : Int) < (l.length : Int)) by omega)]
    rw [List.drop_eq_nil_of_le (by omega)]
    exact Ev.some fun k => by simp [sumW]
  | d + 1, i, n, hd, hi, h0, h1 => by
    have hx : i < l.length := by omega
    refine Ev.succ ?_
    have hw := hm (toW l[i]) (List.mem_map.2 ⟨l[i], List.getElem_mem hx, rfl⟩)
    rw [may_eq] at hw
    have e2 : wrap64 ((i : Int) + 1) = ((i + 1 : Nat) : Int) := by rw [w64 (by omega)]; omega
    have e3 : wrap64 (n + wrap64 (l[i].f2 - l[i].f1)) = n + (l[i].f2 - l[i].f1) := by rw [w64 (x := l[i].f2 - l[i].f1) (by omega), w64 (by omega)]
    simp only [mute_Total.l0, if_pos (show (i : Int) < (l.length : Int) by omega), if_pos (show (0 : Int) ≤ (i : Int) by omega), rdW l hx, e2, e3]
    rw [List.drop_eq_getElem_cons hx, List.map_cons]
    simp only [sumW]
    by_cases q : l[i].f0 = b
    · simp only [if_pos q, if_pos (show (toW l[i]).bed = b from q)]
      have := total_l0 l b hn hm d (i + 1) (n + (l[i].f2 - l[i].f1)) (by omega) (by omega) (by omega) (by omega)
      rw [show n + ((toW l[i]).hi - (toW l[i]).lo + sumW b ((l.drop (i + 1)).map toW)) = n + (l[i].f2 - l[i].f1) + sumW b ((l.drop (i + 1)).map toW) by
        show n + (l[i].f2 - l[i].f1 + _) = _; omega]
      exact this
    · simp only [if_neg q, if_neg (show ¬ (toW l[i]).bed = b from q), Int.zero_add]
      exact total_l0 l b hn hm d (i + 1) n (by omega) (by omega) h0 (by omega)
theorem total_ev (l : List S32) (b : Int) (hl : l.length ≤ 1000000) : Ev (fun k => mute_Total.f k l b) (if Right l then sumW b (l.map toW) else 0) := by
  unfold mute_Total.f
  refine Ev.bind (is_ev l hl) ?_
  by_cases h : Right l
  · simp only [decide_eq_true h, if_true, if_pos h]
    have := total_l0 l b h.1 h.2.2 _ 0 0 rfl (Nat.zero_le _) (Int.le_refl _) (by simp)
    rw [Int.zero_add, List.drop_zero] at this
    exact this
  · simp only [decide_eq_false h, Bool.false_eq_true, if_false, if_neg h]
    exact Ev.some fun k => rfl
end Go.Proofs.Ytaooefnmdlajcaa.P

set_option linter.unusedVariables false
set_option linter.unusedSimpArgs false
namespace Go.Proofs.Ytaooefnmdlajcaa.P
open Go.RowKit Go.Proofs.YtaooefnmdlajcaaW.PrintWords Go.Proofs.YtaooefnmdlajcaaW.PrintLast Go.Proofs.YtaooefnmdlajcaaW.PrintMore
instance (a b : Win) : Decidable (Lt a b) := inferInstanceAs (Decidable (_ ∨ _ ∧ _))
theorem right_map {l : List Win} (h : l.length ≤ 100) (g : Good l) : Right (l.map ofW) := ⟨by rw [List.length_map]; exact h, by rw [map_toW]; exact g⟩
theorem addR_ok {l m : List S32} (h : (addR l m).2 = 0) : Right l ∧ (∀ w ∈ m.map toW, May w) ∧ Right (addR l m).1 ∧ ∀ b t, Has ((addR l m).1.map toW) b t ↔ Has (l.map toW) b t ∨ Has (m.map toW) b t := by
  unfold addR at *
  by_cases c : Right l ∧ ∀ w ∈ m.map toW, May w
  · rw [if_pos c] at *
    unfold toldW at *
    by_cases c2 : (joinW (l.map toW ++ m.map toW)).length > 100
    · rw [if_pos c2] at h; exact absurd h (by decide)
    · rw [if_neg c2] at *
      have hm : ∀ w ∈ l.map toW ++ m.map toW, May w := fun w hw => (List.mem_append.1 hw).elim (c.1.2.2 w) (c.2 w)
      obtain ⟨g1, g2⟩ := joinW_ok fun w hw => (hm w hw).lt
      refine ⟨c.1, c.2, right_map (by omega) (good_of g1 fun b t ht => has_may hm ((g2 b t).1 ht)), fun b t => ?_⟩
      rw [map_toW, g2, has_append]
  · rw [if_neg c] at h; exact absurd h (by decide)
theorem cutR_ok {l m : List S32} (h : (cutR l m).2 = 0) : Right l ∧ (∀ w ∈ m.map toW, May w) ∧ Right (cutR l m).1 ∧ ∀ b t, Has ((cutR l m).1.map toW) b t ↔ Has (l.map toW) b t ∧ ¬ Has (m.map toW) b t := by
  unfold cutR at *
  by_cases c : Right l ∧ ∀ w ∈ m.map toW, May w
  · rw [if_pos c] at *
    unfold toldW at *
    by_cases c2 : ((m.map toW).foldl cut1 (l.map toW)).length > 100
    · rw [if_pos c2] at h; exact absurd h (by decide)
    · rw [if_neg c2] at *
      obtain ⟨g1, g2⟩ := cuts_ok (fun w hw => (c.2 w hw).lt) c.1.2.1
      refine ⟨c.1, c.2, right_map (by omega) (good_of g1 fun b t ht => has_may c.1.2.2 ((g2 b t).1 ht).1), fun b t => ?_⟩
      rw [map_toW, g2]
  · rw [if_neg c] at h; exact absurd h (by decide)
theorem right_len {l : List S32} (h : Right l) : l.length ≤ 1000000 := Nat.le_trans h.1 (by decide)
abbrev exL : List S32 := [⟨1, 1, 5⟩, ⟨1, 7, 20⟩]
theorem exL_right : Right exL := ⟨by decide, by
  show Good [⟨1, 1, 5⟩, ⟨1, 7, 20⟩]
  unfold Good Canon
  decide⟩
theorem ex_add : addR exL [⟨1, 5, 9⟩] = ([⟨1, 1, 20⟩], 0) := by
  unfold addR
  rw [if_pos ⟨exL_right, by decide⟩]
  have : joinW (exL.map toW ++ [(⟨1, 5, 9⟩ : S32)].map toW) = [⟨1, 1, 20⟩] :=
    (joined_any (l := [⟨1, 1, 5⟩, ⟨1, 7, 20⟩, ⟨1, 5, 9⟩]) (l' := [⟨1, 1, 5⟩, ⟨1, 5, 9⟩, ⟨1, 7, 20⟩]) (by decide) (by decide) (by decide)).symm.trans (by decide)
  rw [this]
  rfl
theorem ex_bad : addR exL [⟨0, 0, 0⟩] = ([], 1) := by
  unfold addR
  rw [if_neg (fun h => absurd h.2 (by decide))]
theorem ex_cut : cutR exL [⟨1, 5, 9⟩] = ([⟨1, 1, 5⟩, ⟨1, 9, 20⟩], 0) := by
  unfold cutR
  rw [if_pos ⟨exL_right, by decide⟩]
  have : ([(⟨1, 5, 9⟩ : S32)].map toW).foldl cut1 (exL.map toW) = [⟨1, 1, 5⟩, ⟨1, 9, 20⟩] := by decide
  rw [this]
  rfl
theorem till_ex : mute_Till.f exL 1 7 = some (20, true) := by kernel_rfl
theorem muted_ev : Ev (fun k => watchmanlaw10_muted.f k) true := by
  unfold watchmanlaw10_muted.f
  simp only [Option.bind_some]
  refine Ev.bind (add_ev exL [⟨1, 5, 9⟩] (by decide) (by decide)) ?_
  refine Ev.bind (cut_ev exL [⟨1, 5, 9⟩] (by decide) (by decide)) ?_
  refine Ev.bind (add_ev exL [⟨0, 0, 0⟩] (by decide) (by decide)) ?_
  simp only [till_ex, Option.bind_some, ex_add, ex_bad, ex_cut, if_true]
  refine Ev.bind (same_ev _ _ (by decide)) ?_
  simp only [decide_true, if_true]
  refine Ev.bind (same_ev _ _ (by decide)) ?_
  simp only [decide_true, if_true]
  refine Ev.bind (is_ev exL (by decide)) ?_
  simp only [decide_eq_true exL_right, if_true]
  rw [show mute_Has.f exL 1 4 = some true by kernel_rfl, show mute_Has.f exL 1 5 = some false by kernel_rfl]
  simp only [Option.bind_some, if_true, Bool.false_eq_true, if_false]
  refine Ev.bind (total_ev exL 1 (by decide)) ?_
  rw [if_pos exL_right]
  exact Ev.some fun k => by decide
end Go.Proofs.Ytaooefnmdlajcaa.P

set_option linter.unusedVariables false
set_option linter.unusedSimpArgs false
namespace Go.Proofs.Ytaooefnmdlajcaa.P
open Go.RowKit Go.Proofs.YtaooefnmdlajcaaW.PrintWords Go.Proofs.YtaooefnmdlajcaaW.PrintLast Go.Proofs.YtaooefnmdlajcaaW.PrintMore
def cnt (p : Nat → Bool) : Nat → Nat
  | 0 => 0
  | M + 1 => cnt p M + (bif p M then 1 else 0)
theorem cnt_congr {p q : Nat → Bool} (h : ∀ t, p t = q t) : ∀ M, cnt p M = cnt q M
  | 0 => rfl
  | M + 1 => by simp only [cnt, cnt_congr h M, h M]
theorem cnt_or {p q r : Nat → Bool} (h : ∀ t, r t = (p t || q t)) (hd : ∀ t, ¬ (p t = true ∧ q t = true)) : ∀ M, cnt r M = cnt p M + cnt q M
  | 0 => rfl
  | M + 1 => by
    simp only [cnt, cnt_or h hd M, h M]
    have := hd M
    cases hp : p M <;> cases hq : q M <;> simp_all <;> omega
theorem cnt_win (lo hi : Nat) (hlt : lo ≤ hi) : ∀ M, cnt (fun t => decide (lo ≤ t ∧ t < hi)) M = min hi M - min lo M
  | 0 => by simp [cnt]
  | M + 1 => by
    simp only [cnt, cnt_win lo hi hlt M]
    by_cases h : lo ≤ M ∧ M < hi
    · simp only [decide_eq_true h, cond_true]; omega
    · simp only [decide_eq_false h, cond_false]; omega
theorem cnt_none {p : Nat → Bool} (h : ∀ t, p t = false) : ∀ M, cnt p M = 0
  | 0 => rfl
  | M + 1 => by simp only [cnt, cnt_none h M, h M, cond_false]
theorem cnt_one (w : Win) (b : Int) (M : Nat) (hw : May w) (hM : 1000000000 ≤ M) : (cnt (fun t => decide (HasW w b (t : Int))) M : Int) = if w.bed = b then w.hi - w.lo else 0 := by
  unfold May at hw
  by_cases q : w.bed = b
  · rw [if_pos q]
    have e := cnt_win w.lo.toNat w.hi.toNat (by omega) M
    rw [cnt_congr (q := fun t => decide (w.lo.toNat ≤ t ∧ t < w.hi.toNat)) (fun t => by rw [decide_eq_decide]; unfold HasW; omega) M, e]
    omega
  · rw [if_neg q, cnt_none (fun t => decide_eq_false (fun h => q h.1))]
    rfl
theorem sum_cnt (b : Int) (M : Nat) (hM : 1000000000 ≤ M) : ∀ (l : List Win), Good l → (cnt (fun t => decide (Has l b (t : Int))) M : Int) = sumW b l
  | [], _ => by rw [cnt_none (fun t => decide_eq_false (has_nil _ _))]; rfl
  | w :: l, h => by
    have hl : Good l := ⟨(canon_cons.1 h.1).2.2, fun x hx => h.2 x (by simp [hx])⟩
    have ih := sum_cnt b M hM l hl
    have h1 := cnt_one w b M (h.2 w (by simp)) hM
    have e := cnt_or (p := fun t => decide (HasW w b (t : Int))) (q := fun t => decide (Has l b (t : Int))) (r := fun t => decide (Has (w :: l) b (t : Int)))
      (fun t => by rw [Bool.eq_iff_iff]; simp only [decide_eq_true_eq, Bool.or_eq_true, has_cons])
      (fun t => by
        simp only [decide_eq_true_eq]
        rintro ⟨⟨a1, a2, a3⟩, a4⟩
        subst a1
        exact rest_not h.1 (by omega) a4) M
    simp only [sumW]
    rw [e, ← ih, ← h1]
    omega
theorem total_share {l a c : List S32} {w : S32} {b : Int} (ha : Right a) (hc : Right c) (hw : May (toW w)) (ea : ∀ t, Has (a.map toW) b t ↔ Has (l.map toW) b t ∨ HasW (toW w) b t) (ec : ∀ t, Has (c.map toW) b t ↔ Has (l.map toW) b t ∧ ¬ HasW (toW w) b t) :
    sumW b (a.map toW) = sumW b (c.map toW) + if w.f0 = b then w.f2 - w.f1 else 0 := by
  rw [← sum_cnt b 1000000000 (Nat.le_refl _) _ ha.2, ← sum_cnt b 1000000000 (Nat.le_refl _) _ hc.2]
  have h1 := cnt_one (toW w) b 1000000000 hw (Nat.le_refl _)
  have e := cnt_or (p := fun t => decide (Has (c.map toW) b (t : Int))) (q := fun t => decide (HasW (toW w) b (t : Int))) (r := fun t => decide (Has (a.map toW) b (t : Int)))
    (fun t => by
      rw [Bool.eq_iff_iff]
      simp only [decide_eq_true_eq, Bool.or_eq_true, ea, ec]
      by_cases q : HasW (toW w) b (t : Int) <;> simp [q])
    (fun t => by
      simp only [decide_eq_true_eq, ec]
      exact fun h => h.1.2 h.2) 1000000000
  rw [e]
  have h2 : (if (toW w).bed = b then (toW w).hi - (toW w).lo else 0) = if w.f0 = b then w.f2 - w.f1 else 0 := rfl
  rw [h2] at h1
  rw [← h1]
  omega
theorem tot_ev (l : List S32) (w0 w1 w2 b : Int) : Ev (fun k => watchmanlaw10_MuteTotal.f k l w0 w1 w2 b) true := by
  unfold watchmanlaw10_MuteTotal.f
  by_cases h1 : l.length > 90
  · simp only [if_pos (show (l.length : Int) > 90 by omega)]
    exact Ev.now _
  simp only [if_neg (show ¬ ((l.length : Int) > 90) by omega)]
  refine Ev.bind (add_ev l [⟨w0, w1, w2⟩] (by omega) (by simp)) ?_
  refine Ev.bind (cut_ev l [⟨w0, w1, w2⟩] (by omega) (by simp)) ?_
  have out : Ev (fun k => watchmanlaw10_MuteTotal.j0 k b (addR l [⟨w0, w1, w2⟩]).1 (cutR l [⟨w0, w1, w2⟩]).1 true w0 w1 w2) true := by
    refine Ev.succ ?_
    simp only [watchmanlaw10_MuteTotal.j0, if_true]
    refine Ev.bind muted_ev ?_
    exact Ev.now _
  by_cases ca : (addR l [⟨w0, w1, w2⟩]).2 = 0
  case neg => simp only [if_neg ca]; exact out
  simp only [if_pos ca]
  by_cases cc : (cutR l [⟨w0, w1, w2⟩]).2 = 0
  case neg =>
    have : ((cutR l [⟨w0, w1, w2⟩]).2 != 0) = true := bne_iff_ne.2 cc
    rw [this]; exact out
  have e0 : ((cutR l [⟨w0, w1, w2⟩]).2 != 0) = false := by rw [cc]; rfl
  rw [e0]
  obtain ⟨a1, a2, a3, a4⟩ := addR_ok ca
  obtain ⟨c1, c2, c3, c4⟩ := cutR_ok cc
  have hw : May (toW ⟨w0, w1, w2⟩) := a2 _ (by simp)
  have hasw : ∀ b t, Has ([(⟨w0, w1, w2⟩ : S32)].map toW) b t ↔ HasW (toW ⟨w0, w1, w2⟩) b t := fun b t => has_one
  simp only [hasw] at a4 c4
  have hcut : cutR (addR l [⟨w0, w1, w2⟩]).1 [⟨w0, w1, w2⟩] = cutR l [⟨w0, w1, w2⟩] := by
    have e1 : cut1 ((addR l [⟨w0, w1, w2⟩]).1.map toW) (toW ⟨w0, w1, w2⟩) = cut1 (l.map toW) (toW ⟨w0, w1, w2⟩) := by
      obtain ⟨g1, g2⟩ := cut1_ok hw.lt a3.2.1
      obtain ⟨k1, k2⟩ := cut1_ok hw.lt a1.2.1
      refine canon_unique g1 k1 fun b t => ?_
      rw [g2, k2, a4]
      by_cases q : HasW (toW ⟨w0, w1, w2⟩) b t <;> simp [q]
    show (if Right (addR l [⟨w0, w1, w2⟩]).1 ∧ ∀ w ∈ [(⟨w0, w1, w2⟩ : S32)].map toW, May w then toldW (cut1 ((addR l [⟨w0, w1, w2⟩]).1.map toW) (toW ⟨w0, w1, w2⟩)) else ([], 1)) = (if Right l ∧ ∀ w ∈ [(⟨w0, w1, w2⟩ : S32)].map toW, May w then toldW (cut1 (l.map toW) (toW ⟨w0, w1, w2⟩)) else ([], 1))
    rw [if_pos ⟨a3, a2⟩, if_pos ⟨a1, a2⟩, e1]
  have share := total_share a3 c3 hw (fun t => a4 b t) (fun t => c4 b t)
  have bd := sumW_bound b _ c3.2.2
  have bl : (((cutR l [⟨w0, w1, w2⟩]).1.map toW).length : Int) ≤ 100 := by rw [List.length_map]; have := c3.1; omega
  unfold May at hw
  simp only [toW] at hw
  refine Ev.succ ?_
  simp only [watchmanlaw10_MuteTotal.j0, Bool.false_eq_true, if_false]
  refine Ev.bind (cut_ev _ [⟨w0, w1, w2⟩] (right_len a3) (by simp)) ?_
  rw [hcut]
  have last : ∀ x : Int, x = (if w0 = b then w2 - w1 else 0) → Ev (fun k => watchmanlaw10_MuteTotal.j1 k b (addR l [⟨w0, w1, w2⟩]).1 (cutR l [⟨w0, w1, w2⟩]).1 (cutR l [⟨w0, w1, w2⟩]).1 (cutR l [⟨w0, w1, w2⟩]).2 x) true := by
    intro x hx
    refine Ev.succ ?_
    simp only [watchmanlaw10_MuteTotal.j1]
    refine Ev.bind muted_ev ?_
    simp only [if_true, if_pos cc]
    refine Ev.bind (same_ev _ _ (right_len c3)) ?_
    simp only [decide_true, if_true]
    refine Ev.bind (total_ev _ b (right_len a3)) ?_
    refine Ev.bind (total_ev _ b (right_len c3)) ?_
    rw [if_pos a3, if_pos c3]
    refine Ev.some fun k => ?_
    congr 1
    rw [beq_iff_eq, share, hx]
    split
    · rw [w64 (by omega)]
    · rw [w64 (by omega)]
  by_cases q : b = w0
  · simp only [if_pos q]
    exact last _ (by rw [if_pos q.symm, w64 (by omega)])
  · simp only [if_neg q]
    exact last _ (by rw [if_neg (fun h => q h.symm)])
theorem total_true (l : List S32) (w0 w1 w2 b : Int) : ∃ k, watchmanlaw10_MuteTotal.f k l w0 w1 w2 b = some true := (tot_ev l w0 w1 w2 b).rounds
end Go.Proofs.Ytaooefnmdlajcaa.P

set_option linter.unusedVariables false
namespace Go.Rd
open Go.RowKit Go.Proofs.YtaooefnmdlajcaaW.PrintWords Go.ChangeShapes Go.WideShapes
variable {H : Type} {enc : TypeId × Value → H} {P : Program} {W : World}
def Read (enc : TypeId × Value → H) (P : Program) (W : World) (t : TypeId) (cs : List Value) : Prop := ∃ fuel x, DataW.trod enc P W 0 (fun _ => true) true fuel t cs = some x
theorem Read.of {t : TypeId} {v : Value} {d : DataW H} {ps : List MemPlace} (h : DataW.Trod enc P W 0 (fun _ => true) true t v d ps) : Read enc P W t v.cells.toList := by
  obtain ⟨fuel, h⟩ := h
  exact ⟨fuel, _, h⟩
def RdK {α : Type} (enc : TypeId × Value → H) (P : Program) (W : World) (d : Kd α) (t : TypeId) (good : α → Prop) : Prop := ∀ cs, Read enc P W t cs → cs.length = P.cellsOf t → ∃ x, good x ∧ d.K W x cs
theorem RdK.int {t : TypeId} {k : IntKind} (ht : P.underlying t = some (.int k)) : RdK enc P W (Kd.int k) t (fun n => (Lit.int k n).wf = true) := by
  rintro cs ⟨fuel, x, h⟩ _
  obtain ⟨n, rfl, _, h2⟩ := DataW.trod_int ht h
  exact ⟨n, h2, rfl⟩
theorem RdK.bool {t : TypeId} (ht : P.underlying t = some .bool) : RdK enc P W Kd.bool t (fun _ => True) := by
  rintro cs ⟨fuel, x, h⟩ _
  obtain ⟨n, rfl, _⟩ := DataW.trod_bool ht h
  exact ⟨n, trivial, rfl⟩
theorem RdK.str {t : TypeId} (ht : P.underlying t = some .string) : RdK enc P W Kd.string t (fun s => s.size ≤ maxLen) := by
  rintro cs ⟨fuel, x, h⟩ _
  obtain ⟨n, rfl, _, h2⟩ := DataW.trod_string ht h
  exact ⟨n, h2, rfl⟩
theorem RdK.iso {α β : Type} {d : Kd α} {f : β → α} {t : TypeId} {good : α → Prop} (h : RdK enc P W d t good) (inv : α → β) (hf : ∀ a, f (inv a) = a) : RdK enc P W (Kd.iso d f) t (fun b => good (f b)) := by
  intro cs hr hl
  obtain ⟨x, h1, h2⟩ := h cs hr hl
  exact ⟨inv x, by show good (f (inv x)); rw [hf]; exact h1, by show d.K W (f (inv x)) cs; rw [hf]; exact h2⟩
theorem RdK.imp {α : Type} {d : Kd α} {t : TypeId} {good good' : α → Prop} (h : RdK enc P W d t good) (hi : ∀ x, good x → good' x) : RdK enc P W d t good' := fun cs hr hl => by
  obtain ⟨x, h1, h2⟩ := h cs hr hl
  exact ⟨x, hi x h1, h2⟩
def RdF {α : Type} (enc : TypeId × Value → H) (P : Program) (W : World) (d : Kd α) (fl : List Field) (o m : Nat) (good : α → Prop) : Prop :=
  ∀ cs : List Value, cs.length = m → (∀ f ∈ fl, Read enc P W f.type ((cs.drop f.offset).take (P.cellsOf f.type))) → ∃ x, good x ∧ d.K W x (cs.drop o)
theorem RdF.last {α : Type} {d : Kd α} {f : Field} {o m n : Nat} {good : α → Prop} (h : RdK enc P W d f.type good) (ho : f.offset = o) (hn : P.cellsOf f.type = n) (hm : m = o + n) : RdF enc P W d [f] o m good := by
  intro cs hl hr
  have h1 := hr f (by simp)
  have e : (cs.drop f.offset).take (P.cellsOf f.type) = cs.drop o := by
    rw [ho, hn]; exact List.take_of_length_le (by rw [List.length_drop]; omega)
  rw [e] at h1
  exact h _ h1 (by rw [List.length_drop, hn]; omega)
theorem RdF.cons {α β : Type} {a : Kd α} {b : Kd β} {f : Field} {fl : List Field} {o m n : Nat} {g1 : α → Prop} {g2 : β → Prop} (h : RdK enc P W a f.type g1) (ho : f.offset = o) (hn : P.cellsOf f.type = n) (hm : o + n ≤ m) (t : RdF enc P W b fl (o + n) m g2) :
    RdF enc P W (Kd.pair a b) (f :: fl) o m (fun x => g1 x.1 ∧ g2 x.2) := by
  intro cs hl hr
  have h1 := hr f (by simp)
  rw [ho, hn] at h1
  obtain ⟨x, x1, x2⟩ := h _ h1 (by rw [List.length_take, List.length_drop, hn]; omega)
  obtain ⟨y, y1, y2⟩ := t cs hl (fun g hg => hr g (by simp [hg]))
  refine ⟨(x, y), ⟨x1, y1⟩, (cs.drop o).take n, cs.drop (o + n), ?_, x2, y2⟩
  rw [← List.drop_drop, List.take_append_drop]
theorem RdK.struct {α : Type} {d : Kd α} {t : TypeId} {fs : Array Field} {m : Nat} {good : α → Prop} (ht : P.underlying t = some (.struct fs)) (hm : P.cellsOf t = m) (h : RdF enc P W d fs.toList 0 m good) : RdK enc P W d t good := by
  rintro cs ⟨fuel, x, hr⟩ hl
  obtain ⟨xs, n, _, rfl, hl2, hlen, hf⟩ := DataW.trod_struct ht hr
  have := h cs (hl.trans hm) (fun f hfm => by
    obtain ⟨i, hi⟩ := List.mem_iff_getElem?.1 hfm
    have hi : fs[i]? = some f := by simpa using hi
    have hlt : i < xs.length := by
      have := (Array.getElem?_eq_some_iff.1 hi).1
      simp_all
    have := hf i f hi
    exact ⟨n, xs[i], by simpa [List.getElem?_eq_getElem hlt] using this⟩)
  simpa using this
theorem spot_none {a : Addr} {v : Value} (h : W.cell? a = some v) : a.spot = none := by
  unfold World.cell? at h
  split at h
  · split at h
    · cases h
    · rename_i hn; cases hs : a.spot with
      | none => rfl
      | some x => rw [hs] at hn; exact absurd rfl hn
  · cases h
theorem addr_add {a : Addr} (hs : a.spot = none) (i : Nat) : a.add i = ⟨a.block, a.off + i, none⟩ := by
  unfold Addr.add
  split
  · rename_i h; subst h; obtain ⟨b, o, s⟩ := a; simp only at hs; subst hs; rfl
  · rfl
theorem RdK.slice {α : Type} {d : Kd α} {t e e' : TypeId} {good : α → Prop} (ht : P.underlying t = some (.slice e)) (hc : P.cellsOf e = d.sz) (hk : 1 ≤ d.sz) (h : RdK enc P W d e good) :
    RdK enc P W (Kd.slice e' d) t (fun l => l.length ≤ maxLen ∧ ∀ x ∈ l, good x) := by
  rintro cs ⟨fuel, x, hr⟩ _
  rcases Go.Deep.open_slice ht hr with ⟨rfl, _⟩ | ⟨a, len, cap, m, n, D, Pl, rfl, _, hl, hm, hmm, _, hx⟩
  · exact ⟨[], ⟨Nat.zero_le _, by simp⟩, none, 0, rfl, Nat.le_refl _, rfl, by simp, fun h0 => by simp at h0⟩
  · simp only [if_true] at hmm
    by_cases h0 : len = 0
    · subst h0
      exact ⟨[], ⟨Nat.zero_le _, by simp⟩, some a, cap, rfl, Nat.zero_le _, rfl, by simp, fun h0 => by simp at h0⟩
    have at_ : ∀ i, i < len → ∃ (x : α) (cs : List Value), W.cells? 0 (a.add (i * d.sz)) d.sz = some cs ∧ good x ∧ d.K W x cs := by
      intro i hi
      obtain ⟨cs', h1, h2⟩ := hx i (by omega)
      rw [hc] at h1
      obtain ⟨_, hlen, _⟩ := World.cells?_some h1
      obtain ⟨x, q1, q2⟩ := h cs' ⟨_, _, h2⟩ (hlen.trans hc.symm)
      exact ⟨x, cs', h1, q1, q2⟩
    obtain ⟨x0, cs0, z1, _, _⟩ := at_ 0 (by omega)
    have hsp : a.spot = none := by
      obtain ⟨_, s1, s2⟩ := World.cells?_some z1
      have h00 := s2 0 (by omega)
      have hzz : (a.add (0 * d.sz)).add 0 = a := by simp [Addr.add]
      rw [hzz] at h00
      rw [List.getElem?_eq_getElem (by omega)] at h00
      exact spot_none h00
    have each : ∀ i, ∃ (x : α) (cs : List Value), i < len → (W.cells? 0 (a.add (i * d.sz)) d.sz = some cs ∧ good x ∧ d.K W x cs) := by
      intro i
      by_cases hi : i < len
      · obtain ⟨x, cs, q⟩ := at_ i hi
        exact ⟨x, cs, fun _ => q⟩
      · exact ⟨x0, [], fun h => absurd h hi⟩
    obtain ⟨X, hX⟩ := Classical.axiomOfChoice each
    obtain ⟨C, hC⟩ := Classical.axiomOfChoice hX
    have hmx : len ≤ 9223372036854775807 := by have : maxLen = 9223372036854775807 := rfl; omega
    refine ⟨(List.range len).map X, ⟨by simp; omega, fun x hx => ?_⟩, some a, cap, by simp, by simpa using hl, by simp, by simpa using hmx, fun _ => ⟨a, rfl, fun i x hi => ?_⟩⟩
    · obtain ⟨i, hi, rfl⟩ := List.mem_map.1 hx
      exact (hC i (List.mem_range.1 hi)).2.1
    · have hilt : i < len := by have := (List.getElem?_eq_some_iff.1 hi).1; simpa using this
      have hx : X i = x := by simpa [hilt] using hi
      obtain ⟨q1, q2, q3⟩ := hC i hilt
      obtain ⟨_, r1, r2⟩ := World.cells?_some q1
      refine ⟨C i, r1, hx ▸ q3, fun j u hj => ?_⟩
      have hjl : j < (C i).length := (List.getElem?_eq_some_iff.1 hj).1
      have h2 := r2 j (by omega)
      rw [addr_add hsp, addr_add rfl] at h2
      rw [addr_add hsp, ← Nat.add_assoc, h2]; exact hj
end Go.Rd

namespace Go.Proofs.Ytaooefnmdlajcaa.muteTotal
open Go.ChangeShapes Go.WideShapes Go.ChangeAt Go.RowKit Go.Rd Go.Proofs.YtaooefnmdlajcaaW.PrintWords
open Go.ChangeMaps (open_string shut_string)
set_option linter.unusedVariables false
theorem own : ownKnob Try.prog.godebug = none := by kernel_rfl
theorem laidOut : laidOutB Try.prog = true := by kernel_rfl
theorem rd32 {H : Type} {enc : TypeId × Value → H} {W : World} : RdK enc Try.prog W Go.Proofs.Ytaooefnmdlajcaa.P.k32 32 (fun x => (Lit.int .i64 x.f0).wf = true ∧ (Lit.int .i64 x.f1).wf = true ∧ (Lit.int .i64 x.f2).wf = true) :=
  RdK.iso (RdK.struct (m := 3) Try.underlying32 (by kernel_rfl) (RdF.cons (o := 0) (n := 1) (RdK.int Try.underlying3) rfl (by kernel_rfl) (by decide) (RdF.cons (o := 1) (n := 1) (RdK.int Try.underlying3) rfl (by kernel_rfl) (by decide) (RdF.last (o := 2) (n := 1) (RdK.int Try.underlying3) rfl (by kernel_rfl) rfl)))) (fun p => ⟨p.1, p.2.1, p.2.2⟩) (fun _ => rfl)
set_option maxRecDepth 100000 in
theorem lifted (os : Os) (started : os.Started) (H : Type) (enc : TypeId × Value → H) :
    ReturnsInHanded {} Try.checked os 6 .any (Rows.muteTotalSpec.pre6 enc Try.prog Try.f6 Rows.muteTotalRow.domain false) (Rows.muteTotalSpec.post enc Try.prog Try.f6 false true false false) := by
  refine returnsInHanded_of_change_sized (C := Try.checked) own started (by kernel_rfl) Try.func6
    (ChangeSpec.witness6 (enc := enc) (C := Try.checked) false ⟨#[], #[.slice none 0 0, .agg #[.int .i64 0, .int .i64 0, .int .i64 0], .int .i64 0], []⟩ 8 (by kernel_rfl) (by kernel_rfl) (by kernel_rfl) (by kernel_rfl)) ?_
  intro W base args ds gs before hval0 hW hcnd hsz0 _
  have hval : ∀ (j : Nat) t v, Try.f6.params[j]? = some t → args[j]? = some v → Value.okWide Try.prog W .any base t v := hval0
  have hW' := hW
  obtain ⟨p, q, hA0, hV, rfl, hfz, hnd⟩ := hW
  have hA : DataW.TrodAll enc Try.prog W 0 (fun _ => true) true Try.f6.params.toList args.toList ds p := hA0
  rw [Try.params6] at hA hval
  obtain ⟨v0, vs0, d0, ds0, p0, q0, hargs, rfl, rfl, h0, r0⟩ := trodAll_cons hA
  obtain ⟨v1, vs1, d1, ds1, p1, q1, rfl, rfl, rfl, h1, r1⟩ := trodAll_cons r0
  obtain ⟨v2, vs2, d2, ds2, p2, q2, rfl, rfl, rfl, h2, r2⟩ := trodAll_cons r1
  obtain ⟨rfl, rfl, rfl⟩ := trodAll_nil r2
  obtain rfl : args = #[v0, v1, v2] := by cases args; simp_all
  obtain ⟨rfl, rfl⟩ := trodVars_none hV
  have k0 := h0
  have lt0 : ∀ x ∈ p0, x.block < W.heap.size := by obtain ⟨m, hm⟩ := k0; exact DataW.trod_lt m _ _ _ hm
  obtain ⟨sa0, sl0, sc0, rfl⟩ := okWide_slice Try.underlying22 (hval 0 22 v0 rfl rfl)
  obtain ⟨l0, g0, A0, c0, e0, hc0, hr0⟩ := (RdK.slice (d := Go.Proofs.Ytaooefnmdlajcaa.P.k32) (e' := 32) Try.underlying22 (by kernel_rfl) (by decide) rd32) _ (Read.of h0) (by simp [Value.cells]; kernel_rfl)
  obtain ⟨rfl, rfl, rfl⟩ : sa0 = A0 ∧ sl0 = l0.length ∧ sc0 = c0 := by simpa [Value.cells] using e0
  have k1 := h1
  have lt1 : ∀ x ∈ p1, x.block < W.heap.size := by obtain ⟨m, hm⟩ := k1; exact DataW.trod_lt m _ _ _ hm
  obtain ⟨cs1, rfl, hz1⟩ := okWide_struct Try.underlying32 (hval 1 32 v1 rfl rfl)
  obtain ⟨x1, g1, hk1⟩ := rd32 _ (Read.of h1) (by simpa [Value.cells] using hz1)
  obtain rfl : cs1 = #[.int .i64 x1.f0, .int .i64 x1.f1, .int .i64 x1.f2] := Array.toList_inj.1 (Go.Proofs.Ytaooefnmdlajcaa.P.k32_open hk1)
  have k2 := h2
  have lt2 : ∀ x ∈ p2, x.block < W.heap.size := by obtain ⟨m, hm⟩ := k2; exact DataW.trod_lt m _ _ _ hm
  obtain ⟨a2, rfl, rfl, rfl, g2⟩ := open_int Try.underlying3 (hval 2 3 v2 rfl rfl) h2
  clear hA0 hval0 hsz0
  obtain ⟨k, hk⟩ := Go.Proofs.Ytaooefnmdlajcaa.P.total_true l0 x1.f0 x1.f1 x1.f2 a2
  refine (Go.Proofs.Ytaooefnmdlajcaa.P.watchmanlaw10_MuteTotal.calls k _ _ l0 x1.f0 x1.f1 x1.f2 a2 true W hr0 hc0 hk).mono fun e W' he => ?_
  obtain ⟨rfl, bel⟩ := he
  exact ⟨_, rfl, _, _, _, [], _, [], hW', trodAll_mk1 (shut_bool Try.underlying4 _), (trodAll_cons_mk (Below.trod laidOut (by kernel_rfl) (of_decide_eq_true (by kernel_rfl)) k0 bel lt0) (trodAll_cons_mk (Below.trod laidOut (by kernel_rfl) (of_decide_eq_true (by kernel_rfl)) k1 bel lt1) (trodAll_cons_mk (Below.trod laidOut (by kernel_rfl) (of_decide_eq_true (by kernel_rfl)) k2 bel lt2) trodAll_mk0))), rfl, bel.frame _, fun h => by cases h⟩
theorem over : Rows.muteTotalRow.holds Try.pinned (OpenSpec.ofChange Rows.muteTotalSpec) :=
  OpenClaim.holds_of_wide 6 Try.f6 rfl rfl rfl rfl rfl rfl rfl ⟨rfl, rfl, rfl, rfl, rfl⟩ rfl rfl rfl rfl rfl (by kernel_rfl) Try.func6 (by kernel_rfl)
    (of_decide_eq_true (by kernel_rfl)) (by unfold Func.isWrapper; first | (rw [if_pos (by decide +kernel)]; kernel_rfl) | (rw [if_neg (by decide +kernel)]; exact ⟨rfl, rfl⟩))
    (fun os started H enc _ => lifted os started H enc)
end Go.Proofs.Ytaooefnmdlajcaa.muteTotal
namespace Go.Proofs.Ytaooefnmdlajcaa
theorem muteTotal_holds : Rows.MuteTotalSaid := muteTotal.over
end Go.Proofs.Ytaooefnmdlajcaa

