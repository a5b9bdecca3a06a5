/- The statement TallyDoes is proved: the call returns true for every input. No conditions. -/
import Derived.Test.YtdkfkacipbaenaaDoorA1
import Derived.RangeFuncBox
import Derived.RangeFuncLeaves
import Derived.RangeFuncWrites
import Derived.Shelf.Abstract
import Derived.WalkKit
import Derived.OwnWalkIn
import Derived.TacticsInMore
import Derived.LoopNIn
import Derived.LoopIn
import Derived.Maps.AppendAt
import Derived.Laws.Bits64b
import Derived.Lib.TrailingZeros
import Derived.Shelf.Spec.TrailingZeros
import Derived.Test.YtdkfkacipbaenaaDoorProg
import Derived.ProofKit
import Derived.LaidMore
import Derived.OpenShut
import Derived.Stop.Joined
import Derived.Test.YtdkfkacipbaenaaDoorTie
import Derived.Test.YtdkfkacipbaenaaDoorCards
import Derived.ShutString
import Derived.ChangeOld
import Derived.Below
import Derived.SizedLaws
import Derived.SevenTiedAt
import Derived.Test.YtdkfkacipbaenaaDoorRows
set_option linter.unusedVariables false
set_option linter.unusedSimpArgs false
set_option linter.unusedSectionVars false
section
set_option linter.unusedVariables false
namespace Go.Proofs.YtdkfkacipbaenaaDoor
open Go.RowKit Go.Shelf Go.Proofs
attribute [local go_sem] Oper.semAt_some
def bitsFrom : Nat → Nat → Nat → List Int
  | 0, _, _ => []
  | f + 1, i, s => if s % 2 = 1 then (i : Int) :: bitsFrom f (i + 1) (s / 2) else bitsFrom f (i + 1) (s / 2)
def bitsOf (s : Nat) : List Int := bitsFrom 7 0 s
theorem bits_step : ((List.range 128).all fun s => s == 0 || bitsOf s == ((Lib.ctz 64 s : Nat) : Int) :: bitsOf (s &&& (s - 1))) = true := by kernel_rfl
theorem bits_less : ((List.range 128).all fun s => s == 0 || decide ((s &&& (s - 1)) < s)) = true := by kernel_rfl
theorem bitsOf_zero : bitsOf 0 = [] := rfl
theorem bitsOf_next {s : Nat} (h : s < 128) (h0 : s ≠ 0) : bitsOf s = ((Lib.ctz 64 s : Nat) : Int) :: bitsOf (s &&& (s - 1)) := by
  have := List.all_eq_true.1 bits_step s (List.mem_range.2 h)
  simp only [Bool.or_eq_true, beq_iff_eq] at this
  exact this.resolve_left h0
theorem bits_fall {s : Nat} (h : s < 128) (h0 : s ≠ 0) : (s &&& (s - 1)) < s := by
  have := List.all_eq_true.1 bits_less s (List.mem_range.2 h)
  simp only [Bool.or_eq_true, beq_iff_eq, decide_eq_true_eq] at this
  exact this.resolve_left h0
theorem bitsOf_len (s : Nat) : (bitsOf s).length ≤ 7 := by
  have : ∀ f i s, (bitsFrom f i s).length ≤ f := by
    intro f
    induction f with
    | zero => intro i s; simp [bitsFrom]
    | succ f ih =>
      intro i s
      unfold bitsFrom
      split
      · have := ih (i + 1) (s / 2); simp; omega
      · have := ih (i + 1) (s / 2); omega
  exact this 7 0 s
theorem right_in (F : Fence) (n : Nat) (h : F.fn 26) (hro : F.round = none) (x : Int) (w : World) :
    CallsIn F n Tryd.prog 26 #[.int .i64 x] w fun e w' => e = .returned (.int .i64 (if x < 0 ∨ x > 127 then 0 else x)) ∧ w' = w := by
  by_cases hx : x < 0 ∨ x > 127
  all_goals
    first | rw [if_pos hx] | rw [if_neg hx]
    refine callsIn_of_wp Tryd.func26 rfl h ?_ hro
    simp only [Tryd.ntmps26, List.size_toArray, List.length_cons, List.length_nil, Nat.reduceAdd, Nat.reduceSub, Array.replicate_succ, Array.replicate_zero, List.push_toArray, List.append_toArray, List.nil_append, List.cons_append]
    gi_wp2
    all_goals
      go_ret
      first | exact ⟨rfl, rfl⟩ | (exfalso; simp_all; done) | (exfalso; simp_all; omega)
set_option maxHeartbeats 1000000 in
theorem tz64_core_in (F : Fence) (n : Nat) (h : F.fn 41) (hro : F.round = none) (x k idx : Nat) (w : World) (hx0 : ((x : Int) == 0) = false)
    (key : IntKind.u64.wrap (bits BinOp.and IntKind.u64 (x : Int) (IntKind.u64.wrap (-(x : Int))) * 285870213051353865) / 288230376151711744 = (idx : Int))
    (hi : idx < 64) (hk : k < 64) (hcell : w.cell? ⟨1, idx, none⟩ = some (.int .u8 k)) :
    CallsIn F n Tryd.prog 41 #[.int .u64 x] w fun e w' => e = .returned (.int .i64 k) ∧ w' = w := by
  refine callsIn_of_wp Tryd.func41 rfl h ?_ hro
  simp only [Tryd.ntmps41, List.size_toArray, List.length_cons, List.length_nil, Nat.reduceAdd, Nat.reduceSub, Array.replicate_succ, Array.replicate_zero, List.push_toArray, List.append_toArray, List.nil_append, List.cons_append]
  gi_wp2_with (simp only [key])
  go_ret
  exact ⟨rfl, rfl⟩
theorem tz64_in (F : Fence) (n : Nat) (h : F.fn 41) (hro : F.round = none) (x : Nat) (hx0 : x ≠ 0) (hx : x < 18446744073709551616) (w : World) (hT : TabAt 1 Lib.deBruijn64tab w) :
    CallsIn F n Tryd.prog 41 #[.int .u64 x] w fun e w' => e = .returned (.int .i64 (Lib.ctz 64 x)) ∧ w' = w := by
  obtain ⟨hlow, hk⟩ := Lib.lowest_bit 64 x hx0 hx
  obtain ⟨hi, htab⟩ := Lib.deBruijn64_at _ hk
  have hcell := hT _ hi
  rw [htab] at hcell
  exact tz64_core_in F n h hro x _ _ w (by simp; omega) (tz64_key x _ hx hx0 hlow) hi hk hcell
end Go.Proofs.YtdkfkacipbaenaaDoor

end
section
set_option linter.unusedVariables false
namespace Go.Proofs.YtdkfkacipbaenaaDoor
open Go.RowKit Go.Shelf Go.Proofs
attribute [local go_sem] Oper.semAt_some
theorem tab_below {g n₀ : Nat} {tab : List Nat} {A B : World} (ht : TabAt g tab A) (h : Below n₀ A B) (hg : g < n₀) : TabAt g tab B := fun j hj => (h.cell (p := ⟨g, j, none⟩) hg).trans (ht j hj)
set_option maxHeartbeats 1000000 in
theorem tz_in (F : Fence) (n : Nat) (h37 : F.fn 37) (h41 : F.fn 41) (hro : F.round = none) (hn : 1 ≤ n) (x : Nat) (hx0 : x ≠ 0) (hx : x < 18446744073709551616) (w : World) (hT : TabAt 1 Lib.deBruijn64tab w) :
    CallsIn F n Tryd.prog 37 #[.int .u64 x] w fun e w' => e = .returned (.int .i64 (Lib.ctz 64 x)) ∧ w' = w := by
  refine callsIn_of_wp Tryd.func37 rfl h37 ?_ hro
  simp only [Tryd.ntmps37, List.size_toArray, List.length_cons, List.length_nil, Nat.reduceAdd, Nat.reduceSub, Array.replicate_succ, Array.replicate_zero, List.push_toArray, List.append_toArray, List.nil_append, List.cons_append]
  gi_wp2_with (gi_at_call 41; refine (tz64_in F (n - 1) h41 hro x hx0 hx _ hT).mono ?_; rintro e w' ⟨rfl, rfl⟩)
  go_ret
  exact ⟨rfl, rfl⟩
def setR (x : Int) : Nat := if x < 0 ∨ x > 127 then 0 else x.toNat
theorem setR_lt (x : Int) : setR x < 128 := by unfold setR; split <;> omega
theorem setR_eq (x : Int) : (if x < 0 ∨ x > 127 then 0 else x) = (setR x : Int) := by unfold setR; split <;> omega
theorem right_in2 (F : Fence) (n : Nat) (h : F.fn 26) (hro : F.round = none) (x : Int) (w : World) :
    CallsIn F n Tryd.prog 26 #[.int .i64 x] w fun e w' => e = .returned (.int .i64 (setR x : Int)) ∧ w' = w := by
  rw [← setR_eq]; exact right_in F n h hro x w
theorem and_u64 (a b : Nat) (ha : a < 128) (hb : b < 18446744073709551616) : bits .and .u64 (a : Int) (b : Int) = ((a &&& b : Nat) : Int) := bits_and_u64_nat a b (by omega) hb
set_option maxRecDepth 100000 in
set_option maxHeartbeats 2000000 in
theorem members1_in (F : Fence) (n : Nat) (h36 : F.fn 36) (h26 : F.fn 26) (h37 : F.fn 37) (h41 : F.fn 41) (hro : F.round = none) (hn : 2 ≤ n) (l Bn n₀ : Nat) (x0 : Int) (J Jx : List Int → World → Prop)
    (hY : ∀ pre x W, J pre W → pre.length < (bitsOf (setR x0)).length → YieldAt F (n - 1) Tryd.prog l #[.int .i64 x] W fun e W' =>
      (e = .returned (.bool true) ∧ J (pre ++ [x]) W' ∧ Below n₀ W W') ∨ (e = .returned (.bool false) ∧ Jx (pre ++ [x]) W'))
    (W : World) (hBn : W.cell? ⟨Bn, 0, none⟩ = some (.int .i64 x0)) (hT : TabAt 1 Lib.deBruijn64tab W) (h1 : 1 < n₀) (h0 : J [] W) :
    CallsIn F n Tryd.prog 36 #[.func (.yield l) #[] #[], .pointer (some ⟨Bn, 0, none⟩)] W fun e W' => (∃ v, e = .returned v) ∧
      ((∃ ys, ys = bitsOf (setR x0) ∧ J ys W') ∨ (∃ pre, pre <+: bitsOf (setR x0) ∧ Jx pre W')) := by
  have hn1 : 1 ≤ n := by omega
  refine callsIn_of_wp Tryd.func36 rfl h36 ?_ hro
  simp only [Tryd.ntmps36, List.size_toArray, List.length_cons, List.length_nil, Nat.reduceAdd, Nat.reduceSub, Array.replicate_succ, Array.replicate_zero, List.push_toArray, List.append_toArray, List.nil_append, List.cons_append]
  gi_wp2_with (gi_at_call 26; refine (right_in2 F (n - 1) h26 hro x0 _).mono ?_; rintro e w' ⟨rfl, rfl⟩)
  gi_loopw [3] (fun p wr => ∃ (pre : List Int) (s : Nat), p = .int .u64 (s : Int) ∧ s < 128 ∧ bitsOf (setR x0) = pre ++ bitsOf s ∧ TabAt 1 Lib.deBruijn64tab wr ∧ J pre wr)
    (fun p wr => match p with | .int _ s => s.toNat | _ => 0)
  case atStart =>
    refine ⟨[], setR x0, ?_, setR_lt x0, rfl, hT, h0⟩
    have := setR_lt x0
    rw [IntKind.wrap_u64]
    congr 1
    omega
  case round =>
    obtain ⟨pre, s, rfl, hs, hx, hT1, hJ⟩ := hrel
    by_cases hs0 : s = 0
    · subst hs0
      gi_wp2
      go_end0
      exact ⟨⟨_, rfl⟩, .inl ⟨pre, by rw [hx, bitsOf_zero, List.append_nil], hJ⟩⟩
    · have hb := bitsOf_next hs hs0
      have hne : ((s : Int) == 0) = false := by simp; omega
      obtain ⟨fn, tmps, assign, body, hy, hR⟩ := hY pre ((Lib.ctz 64 s : Nat) : Int) wr hJ (by rw [hx, hb]; simp)
      have hw : IntKind.u64.wrap ((s : Int) - 1) = ((s - 1 : Nat) : Int) := by rw [IntKind.wrap_u64]; omega
      have ha : bits .and .u64 (s : Int) ((s - 1 : Nat) : Int) = ((s &&& (s - 1) : Nat) : Int) := and_u64 s (s - 1) hs (by omega)
      gi_wp2_with (first
        | (gi_at_call 37; refine (tz_in F (n - 1) h37 h41 hro (by omega) s hs0 (by omega) _ hT1).mono ?_; rintro e w' ⟨rfl, rfl⟩)
        | (refine hR.mono ?_; rintro e W3 (⟨rfl, hJ3, hk3⟩ | ⟨rfl, hJx3⟩)))
      · refine ⟨⟨pre ++ [((Lib.ctz 64 s : Nat) : Int)], s &&& (s - 1), rfl, Nat.lt_trans (bits_fall hs hs0) hs, by rw [hx, hb]; simp, tab_below hT1 hk3 h1, hJ3⟩, ?_⟩
        show ((s &&& (s - 1) : Nat) : Int).toNat < (s : Int).toNat
        have := bits_fall hs hs0
        omega
      · refine bodyPost_ret (results_none rfl _ _ _) rfl ?_
        exact ⟨⟨_, rfl⟩, .inr ⟨pre ++ [((Lib.ctz 64 s : Nat) : Int)], ⟨bitsOf (s &&& (s - 1)), by rw [hx, hb]; simp⟩, hJx3⟩⟩
set_option maxHeartbeats 1000000 in
theorem members_in (F : Fence) (n : Nat) (h30 : F.fn 30) (hro : F.round = none) (x0 : Int) (w : World) :
    CallsIn F n Tryd.prog 30 #[.int .i64 x0] w fun e w' => e = .returned (.func (.func 36) #[] #[.pointer (some ⟨w.heap.size, 0, none⟩)]) ∧ w' = w.alloc (.cells #[.int .i64 x0] 3) := by
  refine callsIn_of_wp Tryd.func30 rfl h30 ?_ hro
  simp only [Tryd.ntmps30, List.size_toArray, List.length_cons, List.length_nil, Nat.reduceAdd, Nat.reduceSub, Array.replicate_succ, Array.replicate_zero, List.push_toArray, List.append_toArray, List.nil_append, List.cons_append]
  gi_wp2
  go_ret
  exact ⟨rfl, rfl⟩
theorem members_stops (F : Fence) (n : Nat) (h36 : F.fn 36) (h26 : F.fn 26) (h37 : F.fn 37) (h41 : F.fn 41) (hro : F.round = none) (hn : 2 ≤ n) (Bn n₀ : Nat) (x0 : Int) (w : World) (hBn : Bn < w.heap.size) (hn₀ : n₀ ≤ w.heap.size) (h1 : 1 < n₀)
    (hc : w.cell? ⟨Bn, 0, none⟩ = some (.int .i64 x0)) (hT : TabAt 1 Lib.deBruijn64tab w) :
    SeqStopsK F n Tryd.prog 36 #[.pointer (some ⟨Bn, 0, none⟩)] (fun x : Int => #[Value.int .i64 x]) (Below n₀) (fun ys => ys = bitsOf (setR x0)) (fun pre => pre <+: bitsOf (setR x0)) (bitsOf (setR x0)).length w := fun l J Jx W hW _ _ hY h0 =>
  members1_in F n h36 h26 h37 h41 hro hn l Bn n₀ x0 J Jx hY W ((hW.cell (p := ⟨Bn, 0, none⟩) hBn).trans hc) (tab_below hT hW (by omega)) h1 h0
theorem info3 : (Tryd.prog.info? 3).map (fun i => (i.zero, i.size, i.bytes)) = some (some (.int .i64 0), 1, 8) := by kernel_rfl
set_option maxRecDepth 100000 in
set_option maxHeartbeats 2000000 in
theorem Members_in (F : Fence) (n : Nat) (h18 : F.fn 18) (h30 : F.fn 30) (h36 : F.fn 36) (h26 : F.fn 26) (h37 : F.fn 37) (h41 : F.fn 41) (hro : F.round = none) (hn : 3 ≤ n) (x0 : Int) (w : World) (hsz : 1 < w.heap.size) (hT : TabAt 1 Lib.deBruijn64tab w) :
    CallsIn F n Tryd.prog 18 #[.int .i64 x0] w fun e W' => ∃ v, e = .returned v ∧ W'.ownsRow w.heap.size 3 1 v (bitsOf (setR x0)).length ((bitsOf (setR x0)).map (Value.int .i64)) ∧ (v = .slice none 0 0 ↔ bitsOf (setR x0) = []) ∧ Below w.heap.size w W' := by
  have h1 : 1 ≤ n := by omega
  have hlen := bitsOf_len (setR x0)
  obtain ⟨i0, hi, hz0, hz1, hz2⟩ := info_parts info3
  refine callsIn_of_wp_marks Tryd.func18 rfl h18 ?_ hro
  simp only [Tryd.ntmps18, List.size_toArray, List.length_cons, List.length_nil, Nat.reduceAdd, Nat.reduceSub, Array.replicate_succ, Array.replicate_zero, List.push_toArray, List.append_toArray, List.nil_append, List.cons_append]
  gi_wp2_with (gi_at_call 30; refine (members_in F (n - 1) h30 hro _ _).mono ?_; rintro e w' ⟨rfl, rfl⟩)
  have bO := Boxed.new w 22 (.slice none 0 0)
  have bN := Boxed.new (w.alloc (.cells #[.slice none 0 0] 22)) 3 (.int .i64 x0)
  rw [World.size_alloc] at bN
  have hB0 : Below w.heap.size w ((w.alloc (.cells #[.slice none 0 0] 22)).alloc (.cells #[.int .i64 x0] 3)) := ((Below.refl _ w).alloc (Nat.le_refl _) _).alloc (by simp) _
  refine wpIn_rangeFunc_ownG hro h1 (gf := 36) (lb := #[.pointer (some ⟨w.heap.size + 1, 0, none⟩)]) rfl h36 (enters_of Tryd.func36 (by kernel_rfl) rfl)
    (members_stops F (n - 1) h36 h26 h37 h41 hro (by omega) (w.heap.size + 1) w.heap.size x0 _ (by simp) (by simp; omega) hsz bN.cell (tab_below hT hB0 hsz)) belowK_t (belowK_b (by simp; omega)) (Below.refl _ _) (fun _ => rfl)
    (fun pre W => (∃ v, Boxed W w.heap.size 22 v ∧ W.ownsRow w.heap.size 3 1 v pre.length (pre.map (Value.int .i64)) ∧ (v = .slice none 0 0 ↔ pre = [])) ∧ Below w.heap.size w W)
    (fun _ _ _ => False)
    (OwnFrom.and (Own.from (holdsRow_own w.heap.size w.heap.size 22 3 1 (fun pre => pre.length) (fun pre => pre.map (Value.int .i64)) (fun pre v => v = .slice none 0 0 ↔ pre = [])) _) (ownFrom_below (Nat.le_refl _) (by simp; omega)))
    (fun _ _ _ _ _ hs _ _ => hs)
    ⟨⟨_, bO.alloc _, World.ownsRow_nil _ _ _ _, by simp⟩, hB0⟩
    (fun x => { tmps := #[.int .i64 x0, undef, .slice none 0 0, .pointer (some ⟨w.heap.size, 0, none⟩), .int .i64 x, .int .i64 x0, .func (.func 36) #[] #[.pointer (some ⟨w.heap.size + 1, 0, none⟩)], .int .i64 x, undef, undef, undef, undef, undef], defers := [] }) ?assign ?body ?done ?stop
  case assign =>
    intro l x W K hK
    gi_wp2
    exact hK
  case body =>
    rintro l pre x W ⟨⟨v, hv, hrow, hnil⟩, hB⟩ hlt
    have hc := hv.cell
    have hmx : maxLen = 9223372036854775807 := by unfold maxLen; decide
    gi_wp2_with (gi_at_builtin; refine wpListIn_append_own _ rfl _ _ 22 rfl w.heap.size 3 i0 (.int .i64 0) 1 8 Tryd.underlying22 hi hz0 hz1 hz2 rfl (by decide) _ _ _ rfl (hrow.alloc _) ⟨W.heap.size, 0, none⟩ 1 1 [.int .i64 x] rfl rfl (cell_one_new _ _ _) (by simp [Value.oneCell']) (by omega) (by omega) (by have := hB.size; simp; omega) ?_; intro v' w1 hown' hgrow _; obtain ⟨g', cap', rfl⟩ := ownsRow_succ hown'; obtain ⟨hv1, hv2, hr2, hk2, hb2⟩ := hv.appended (by decide) hrow hB.size (Nat.le_refl _) hown' hgrow; have hc1 := hv1.cell; have hf1 := hv1.frozen)
    exact ⟨hk2.from _, hb2, ⟨_, hv2, by simpa using hr2, by simp⟩, hB.trans hb2⟩
  case done =>
    rintro D ys W hD rfl ⟨⟨v, hv, hrow, hnil⟩, hB⟩ hK
    have hc := hv.cell
    gi_wp2
    refine ⟨by simp, .inl ⟨_, _, rfl, run_takeDeferred hK, ?_⟩⟩
    exact ⟨_, results_tmp rfl _ _ _, v, rfl, ownsRow_putObj hrow _ hK rfl, hnil, hB.trans (belowK_b (w := w) (Nat.le_refl _) W D _ _ (by simp at hD; omega) hK rfl rfl)⟩
  case stop =>
    rintro D c pre W _ _ h _
    exact h.elim
theorem Members_calls (x0 : Int) (w : World) (hsz : 1 < w.heap.size) (hT : TabAt 1 Lib.deBruijn64tab w) :
    Calls Tryd.prog 18 #[.int .i64 x0] w fun e W' => ∃ v, e = .returned v ∧ W'.ownsRow w.heap.size 3 1 v (bitsOf (setR x0)).length ((bitsOf (setR x0)).map (Value.int .i64)) ∧ (v = .slice none 0 0 ↔ bitsOf (setR x0) = []) ∧ Below w.heap.size w W' :=
  callsIn_wide.1 (Members_in Fence.wide 10 trivial trivial trivial trivial trivial trivial rfl (by omega) x0 w hsz hT)
end Go.Proofs.YtdkfkacipbaenaaDoor

end
section
set_option linter.unusedVariables false
namespace Go.Proofs.YtdkfkacipbaenaaDoor
open Go Go.Eng Go.Proofs Go.RowKit
def dMem (a : List AV) (H : Heap) : Option Int := match a, H with
  | [.int .i64 x], [] => some x
  | _, _ => none
def fMem (x : Int) : Option (List Int) := some (bitsOf (setR x))
def gMem : CallS := entT dMem (fun x => fMem x) (elAll _) (fun _ _ => .ret (.slf 0)) (fun _ r => [(0, some (.row 3 r))]) (fun _ _ => 1)
theorem flat_ints (l : List Int) : ∀ i, i < l.length → (l.map (Value.int .i64))[i]? = some (.int .i64 (l.getD i 0)) := by
  intro i hi
  rw [List.getElem?_map, List.getElem?_eq_getElem hi, List.getD_eq_getElem?_getD, List.getElem?_eq_getElem hi]
  rfl
theorem own_row {w0 w w' : World} {F : Fr} {h : Heap} {n : Nat} {ρ : Nat → Option Go.Eng.Loc} {RO : Nat → Prop} (H : HRel w0 F h n ρ RO w) {v : Value} {l : List Int} (ho : w'.ownsRow w.heap.size 3 1 v l.length (l.map (Value.int .i64))) (hb : Below w.heap.size w w') (hd : Univ.dr → w.drawn ≤ w'.drawn) :
    ∃ ρ', Ext ρ RO w ρ' RO w' ∧ HRel w0 F ((n, some (.row 3 l)) :: h) (n + 1) ρ' RO w' ∧ VRel ρ' RO w' (.slf n) v := by
  have hsame : ∀ k, k < w.heap.size → w'.heap[k]? = w.heap[k]? := fun k hk => hb.block k hk
  have hf : Go.Eng.Frame w0 F w' := ⟨hb.os.trans H.frame.os, hb.tape.trans H.frame.tape, hb.output.trans H.frame.output, Nat.le_trans H.frame.size hb.size,
    fun k hk hF => (hsame k (Nat.lt_of_lt_of_le hk H.frame.size)).trans (H.frame.block k hk hF), fun d => Nat.le_trans (H.frame.drawn d) (hd d), H.frame.glb⟩
  obtain ⟨hlen, ho⟩ := ho
  rcases ho with ⟨rfl, h0⟩ | ⟨g, cap, cur, rfl, hg, hcur, hcap, hmax, hsz, htake⟩
  · have hl : l = [] := List.length_eq_zero_iff.1 h0
    subst hl
    obtain ⟨ext, fin⟩ := H.add (w' := w') (.row 3 []) ⟨0, 0, Univ.sz 3, 0, 0, false⟩ hf hsame hb.size rfl
    exact ⟨_, ext, fin (.inl ⟨_, rfl, rfl, ⟨rfl, rfl⟩, rfl⟩), .slf (L := ⟨0, 0, Univ.sz 3, 0, 0, false⟩) (if_pos rfl) (Nat.le_refl _) (fun h => absurd rfl h) (fun _ h => by cases h) (by omega) (by simp)⟩
  · obtain ⟨ext, fin⟩ := H.add (w' := w') (.row 3 l) ⟨g, 0, Univ.sz 3, cur.size, l.length, true⟩ hf hsame hb.size rfl
    have hs3 : Univ.sz 3 = 1 := rfl
    have hmx : maxLen = 9223372036854775807 := by unfold maxLen; decide
    refine ⟨_, ext, fin (.inr ⟨hg, ⟨⟨rfl, rfl⟩, cur, hcur, rfl, fun i k hi hk => ?_⟩, (Array.getElem?_eq_some_iff.1 hcur).1, .inl (Nat.le_trans H.frame.size hg), fun hr => ?_, rfl⟩),
      .slf (L := ⟨g, 0, Univ.sz 3, cur.size, l.length, true⟩) (if_pos rfl) hcap (fun _ => rfl) (fun _ _ => rfl) (by rw [hmx] at hmax; exact hmax) (by rw [hs3, hsz]; simp)⟩
    · rw [hs3] at hk ⊢
      have hk0 : k = 0 := by omega
      subst hk0
      have hi : i < List.length (α := Int) l := hi
      refine ⟨.int .i64 (l.getD i 0), ?_, rfl, .int _ _⟩
      have h1 := flat_ints l i hi
      rw [← htake, List.getElem?_take_of_lt (by omega)] at h1
      simpa using h1
    · exact absurd (H.ro _ hr).1 (Nat.not_lt.2 hg)
theorem gMem_ok : CallSOk Tryd.prog 18 gMem := by
  intro R ac Hc m K r hm hlen e
  unfold gMem entT at e
  split at e
  · rename_i x hd
    unfold dMem at hd
    split at hd
    · cases hd
      have hm0 : m = 0 := by rw [← hlen]; rfl
      subst hm0
      replace e : K (.ret (.slf 0)) [(0, some (.row 3 (bitsOf (setR x))))] 1 = some r := e
      refine ⟨_, _, _, ⟨⟨_, Tryd.func18, rfl⟩, fun w0 F ρ RO w vs H hvs => ?_⟩, e⟩
      obtain ⟨v, t, rfl, hv, ht⟩ := hvs.inv_cons
      rw [ht.inv_nil]
      have := int_inv hv
      subst this
      have hT : gpS w := H.frame.glb'
      refine (Members_calls x w (gpS_lt w hT 1 (by simp [gkS])) hT).mono fun e w' he => ?_
      obtain ⟨v, rfl, ho, _, hb⟩ := he
      obtain ⟨ρ', q1, q2, q3⟩ := own_row H ho hb (fun h => h.elim)
      exact ⟨ρ', RO, q1, q2, _, rfl, q3⟩
    · cases hd
  · cases e
end Go.Proofs.YtdkfkacipbaenaaDoor

end
section
set_option linter.unusedVariables false
open Go Go.Eng Go.Proofs
namespace Go.Proofs.YtdkfkacipbaenaaDoor
set_option maxHeartbeats 0
set_option maxRecDepth 100000
noncomputable section
def plan : Plan := fun t => match t with
  | _ => none
def planR : Plan := fun t => match t with
  | _ => none
def Dl0 (k : Nat) : Delta := noΔ
def Lm0 (k : Nat) : FuncId → Nat → Option LamF := noΛ
theorem Dl0_ok (k : Nat) : DeltaOk Tryd.prog (Dl0 k) := noΔ_ok
theorem Lm0_ok (k : Nat) : LamsOk Tryd.prog (Lm0 k) := noΛ_ok
def Dl1 (k : Nat) : Delta := dCons 33 (callAt plan [.own 3] (gSort)) (Dl0 k)
def Lm1 (k : Nat) : FuncId → Nat → Option LamF := Lm0 k
theorem Dl1_ok (k : Nat) : DeltaOk Tryd.prog (Dl1 k) := dCons_ok (Dl0_ok k) (g33_ok k)
theorem Lm1_ok (k : Nat) : LamsOk Tryd.prog (Lm1 k) := Lm0_ok k
def Dl2 (k : Nat) : Delta := dCons 18 (callAt plan [.any] (gMem)) (Dl1 k)
def Lm2 (k : Nat) : FuncId → Nat → Option LamF := Lm1 k
theorem Dl2_ok (k : Nat) : DeltaOk Tryd.prog (Dl2 k) := dCons_ok (Dl1_ok k) (gMem_ok)
theorem Lm2_ok (k : Nat) : LamsOk Tryd.prog (Lm2 k) := Lm1_ok k
abbrev cf2 (k : Nat) : CallF := evF Tryd.prog (Dl2 k) (Lm2 k) 200 12
theorem cf2_ok (k : Nat) : CfOk Tryd.prog (cf2 k) := evF_ok noNum mixed (Dl2_ok k) (Lm2_ok k) 12
abbrev P25 := Int
def A25 (p : P25) : List AV := [.int .i64 p]
def d25 (a : List AV) (H : Heap) : Option P25 := match a, H with
  | [.int .i64 a0], [] => some (a0)
  | _, _ => none
theorem d25_ok (a : List AV) (H : Heap) (p : P25) (h : d25 a H = some p) : a = A25 p ∧ H = [] := by
  unfold d25 at h
  split at h
  · skip
    cases h; exact ⟨rfl, rfl⟩
  · cases h
abbrev R25 := Int × Bool
def o25 (r : R25) : AEnd := .ret (.tup [.int .i64 r.1, .bool r.2])
def u25 (r : R25) : Heap := []
def n25 (_ : R25) : Nat := 0
def r25 (o : AEnd) (u : Heap) (n : Nat) : Option R25 := match o, u, n with
  | .ret (.tup [.int .i64 a0, .bool a1]), [], 0 => some (a0, a1)
  | _, _, _ => none
theorem r25_ok (p : P25) (o : AEnd) (u : Heap) (n : Nat) (r : R25) (h : r25 o u n = some r) : o = o25 r ∧ u = u25 r ∧ n = n25 r := by
  unfold r25 at h
  split at h
  · skip
    cases h; exact ⟨rfl, rfl, rfl⟩
  · cases h
def f25 (k : Nat) (x0 : Int) : Option R25 :=
  br (decide (x0 ≥ (1 : Int)))
   (some (IntKind.wrap IntKind.i64 (IntKind.wrap IntKind.i64 (Int.tdiv x0 (2 : Int)) + (1 : Int)), decide (x0 ≤ (7 : Int))))
   (some (IntKind.wrap IntKind.i64 (IntKind.wrap IntKind.i64 (Int.tdiv x0 (2 : Int)) + (1 : Int)), false))
theorem f25_run (k : Nat) (x0 : Int) : cf2 k R25 25 (A25 (x0)) [] 0 (endR planR (.any) [] 0 r25) = f25 k x0 := by kernel_rfl
def g25 (k : Nat) : CallS := entT d25 (fun p => f25 k p) (elAll _) (fun _ => o25) (fun _ => u25) (fun _ => n25)
theorem g25_ok (k : Nat) : CallSOk Tryd.prog 25 (g25 k) := entry_ok (Hp := fun _ => []) (oR := fun _ => o25) (uR := fun _ => u25) (nR := fun _ => n25) (cf2_ok k) d25_ok r25_ok (hel := elAll_ok) (fun p => f25_run k p)
def Dl3 (k : Nat) : Delta := dCons 25 (callAt plan [.any] (g25 k)) (Dl2 k)
def Lm3 (k : Nat) : FuncId → Nat → Option LamF := Lm2 k
theorem Dl3_ok (k : Nat) : DeltaOk Tryd.prog (Dl3 k) := dCons_ok (Dl2_ok k) (g25_ok k)
theorem Lm3_ok (k : Nat) : LamsOk Tryd.prog (Lm3 k) := Lm2_ok k
abbrev cf3 (k : Nat) : CallF := evF Tryd.prog (Dl3 k) (Lm3 k) 200 12
theorem cf3_ok (k : Nat) : CfOk Tryd.prog (cf3 k) := evF_ok noNum mixed (Dl3_ok k) (Lm3_ok k) 12
abbrev P9 := Int × Int
def A9 (p : P9) : List AV := [.int .i64 p.1, .int .i64 p.2]
def d9 (a : List AV) (H : Heap) : Option P9 := match a, H with
  | [.int .i64 a0, .int .i64 a1], [] => some (a0, a1)
  | _, _ => none
theorem d9_ok (a : List AV) (H : Heap) (p : P9) (h : d9 a H = some p) : a = A9 p ∧ H = [] := by
  unfold d9 at h
  split at h
  · skip
    cases h; exact ⟨rfl, rfl⟩
  · cases h
abbrev R9 := Int × Bool
def o9 (r : R9) : AEnd := .ret (.tup [.int .i64 r.1, .bool r.2])
def u9 (r : R9) : Heap := []
def n9 (_ : R9) : Nat := 0
def r9 (o : AEnd) (u : Heap) (n : Nat) : Option R9 := match o, u, n with
  | .ret (.tup [.int .i64 a0, .bool a1]), [], 0 => some (a0, a1)
  | _, _, _ => none
theorem r9_ok (p : P9) (o : AEnd) (u : Heap) (n : Nat) (r : R9) (h : r9 o u n = some r) : o = o9 r ∧ u = u9 r ∧ n = n9 r := by
  unfold r9 at h
  split at h
  · skip
    cases h; exact ⟨rfl, rfl, rfl⟩
  · cases h
def f9 (k : Nat) (x0 : Int) (x1 : Int) : Option R9 :=
  bindO (f25 k x1) fun r3000 =>
   br (!Prod.snd r3000)
    (some ((0 : Int), false))
    (br (decide (x0 < (0 : Int)))
     (some ((0 : Int), false))
     (br (!x1 == (0 : Int))
      (some (Int.tmod x0 x1, true))
      (none)))
theorem f9_run (k : Nat) (x0 : Int) (x1 : Int) : cf3 k R9 9 (A9 (x0, x1)) [] 0 (endR planR (.any) [] 0 r9) = f9 k x0 x1 := by kernel_rfl
def g9 (k : Nat) : CallS := entT d9 (fun p => f9 k p.1 p.2) (elAll _) (fun _ => o9) (fun _ => u9) (fun _ => n9)
theorem g9_ok (k : Nat) : CallSOk Tryd.prog 9 (g9 k) := entry_ok (Hp := fun _ => []) (oR := fun _ => o9) (uR := fun _ => u9) (nR := fun _ => n9) (cf3_ok k) d9_ok r9_ok (hel := elAll_ok) (fun p => f9_run k p.1 p.2)
def Dl4 (k : Nat) : Delta := dCons 9 (callAt plan [.any, .any] (g9 k)) (Dl3 k)
def Lm4 (k : Nat) : FuncId → Nat → Option LamF := Lm3 k
theorem Dl4_ok (k : Nat) : DeltaOk Tryd.prog (Dl4 k) := dCons_ok (Dl3_ok k) (g9_ok k)
theorem Lm4_ok (k : Nat) : LamsOk Tryd.prog (Lm4 k) := Lm3_ok k
abbrev cf4 (k : Nat) : CallF := evF Tryd.prog (Dl4 k) (Lm4 k) 200 12
theorem cf4_ok (k : Nat) : CfOk Tryd.prog (cf4 k) := evF_ok noNum mixed (Dl4_ok k) (Lm4_ok k) 12
abbrev P26 := Int
def A26 (p : P26) : List AV := [.int .i64 p]
def d26 (a : List AV) (H : Heap) : Option P26 := match a, H with
  | [.int .i64 a0], [] => some (a0)
  | _, _ => none
theorem d26_ok (a : List AV) (H : Heap) (p : P26) (h : d26 a H = some p) : a = A26 p ∧ H = [] := by
  unfold d26 at h
  split at h
  · skip
    cases h; exact ⟨rfl, rfl⟩
  · cases h
abbrev R26 := Int
def o26 (r : R26) : AEnd := .ret (.int .i64 r)
def u26 (r : R26) : Heap := []
def n26 (_ : R26) : Nat := 0
def r26 (o : AEnd) (u : Heap) (n : Nat) : Option R26 := match o, u, n with
  | .ret (.int .i64 a0), [], 0 => some (a0)
  | _, _, _ => none
theorem r26_ok (p : P26) (o : AEnd) (u : Heap) (n : Nat) (r : R26) (h : r26 o u n = some r) : o = o26 r ∧ u = u26 r ∧ n = n26 r := by
  unfold r26 at h
  split at h
  · skip
    cases h; exact ⟨rfl, rfl, rfl⟩
  · cases h
def f26 (k : Nat) (x0 : Int) : Option R26 :=
  br (decide (x0 < (0 : Int)))
   (some (0 : Int))
   (br (decide (x0 > (127 : Int)))
    (some (0 : Int))
    (some x0))
theorem f26_run (k : Nat) (x0 : Int) : cf4 k R26 26 (A26 (x0)) [] 0 (endR planR (.any) [] 0 r26) = f26 k x0 := by kernel_rfl
def g26 (k : Nat) : CallS := entT d26 (fun p => f26 k p) (elAll _) (fun _ => o26) (fun _ => u26) (fun _ => n26)
theorem g26_ok (k : Nat) : CallSOk Tryd.prog 26 (g26 k) := entry_ok (Hp := fun _ => []) (oR := fun _ => o26) (uR := fun _ => u26) (nR := fun _ => n26) (cf4_ok k) d26_ok r26_ok (hel := elAll_ok) (fun p => f26_run k p)
def Dl5 (k : Nat) : Delta := dCons 26 (callAt plan [.any] (g26 k)) (Dl4 k)
def Lm5 (k : Nat) : FuncId → Nat → Option LamF := Lm4 k
theorem Dl5_ok (k : Nat) : DeltaOk Tryd.prog (Dl5 k) := dCons_ok (Dl4_ok k) (g26_ok k)
theorem Lm5_ok (k : Nat) : LamsOk Tryd.prog (Lm5 k) := Lm4_ok k
abbrev cf5 (k : Nat) : CallF := evF Tryd.prog (Dl5 k) (Lm5 k) 200 12
theorem cf5_ok (k : Nat) : CfOk Tryd.prog (cf5 k) := evF_ok noNum mixed (Dl5_ok k) (Lm5_ok k) 12
abbrev P27 := Int
def A27 (p : P27) : List AV := [.int .i64 p]
def d27 (a : List AV) (H : Heap) : Option P27 := match a, H with
  | [.int .i64 a0], [] => some (a0)
  | _, _ => none
theorem d27_ok (a : List AV) (H : Heap) (p : P27) (h : d27 a H = some p) : a = A27 p ∧ H = [] := by
  unfold d27 at h
  split at h
  · skip
    cases h; exact ⟨rfl, rfl⟩
  · cases h
abbrev R27 := Bool
def o27 (r : R27) : AEnd := .ret (.bool r)
def u27 (r : R27) : Heap := []
def n27 (_ : R27) : Nat := 0
def r27 (o : AEnd) (u : Heap) (n : Nat) : Option R27 := match o, u, n with
  | .ret (.bool a0), [], 0 => some (a0)
  | _, _, _ => none
theorem r27_ok (p : P27) (o : AEnd) (u : Heap) (n : Nat) (r : R27) (h : r27 o u n = some r) : o = o27 r ∧ u = u27 r ∧ n = n27 r := by
  unfold r27 at h
  split at h
  · skip
    cases h; exact ⟨rfl, rfl, rfl⟩
  · cases h
def f27 (k : Nat) (x0 : Int) : Option R27 :=
  br (decide (x0 ≥ (0 : Int)))
   (some (decide (x0 < (7 : Int))))
   (some false)
theorem f27_run (k : Nat) (x0 : Int) : cf5 k R27 27 (A27 (x0)) [] 0 (endR planR (.any) [] 0 r27) = f27 k x0 := by kernel_rfl
def g27 (k : Nat) : CallS := entT d27 (fun p => f27 k p) (elAll _) (fun _ => o27) (fun _ => u27) (fun _ => n27)
theorem g27_ok (k : Nat) : CallSOk Tryd.prog 27 (g27 k) := entry_ok (Hp := fun _ => []) (oR := fun _ => o27) (uR := fun _ => u27) (nR := fun _ => n27) (cf5_ok k) d27_ok r27_ok (hel := elAll_ok) (fun p => f27_run k p)
def Dl6 (k : Nat) : Delta := dCons 27 (callAt plan [.any] (g27 k)) (Dl5 k)
def Lm6 (k : Nat) : FuncId → Nat → Option LamF := Lm5 k
theorem Dl6_ok (k : Nat) : DeltaOk Tryd.prog (Dl6 k) := dCons_ok (Dl5_ok k) (g27_ok k)
theorem Lm6_ok (k : Nat) : LamsOk Tryd.prog (Lm6 k) := Lm5_ok k
abbrev cf6 (k : Nat) : CallF := evF Tryd.prog (Dl6 k) (Lm6 k) 200 12
theorem cf6_ok (k : Nat) : CfOk Tryd.prog (cf6 k) := evF_ok noNum mixed (Dl6_ok k) (Lm6_ok k) 12
abbrev P11 := Int × List Int
def A11 (p : P11) : List AV := [.int .i64 p.1, .dsl 3 p.2]
def d11 (a : List AV) (H : Heap) : Option P11 := match a, H with
  | [.int .i64 a0, ba1], [] => (match (dslD 3 ba1 : Option (List Int)) with | some a1 => some (a0, a1) | none => none)
  | _, _ => none
theorem d11_ok (a : List AV) (H : Heap) (p : P11) (h : d11 a H = some p) : a = A11 p ∧ H = [] := by
  unfold d11 at h
  split at h
  · skip
    split at h
    · rename_i q
      have q := dslD_ok q
      subst q
      cases h; exact ⟨rfl, rfl⟩
    · cases h
  · cases h
abbrev R11 := Int
def o11 (r : R11) : AEnd := .ret (.int .i64 r)
def u11 (r : R11) : Heap := []
def n11 (_ : R11) : Nat := 0
def r11 (o : AEnd) (u : Heap) (n : Nat) : Option R11 := match o, u, n with
  | .ret (.int .i64 a0), [], 0 => some (a0)
  | _, _, _ => none
theorem r11_ok (p : P11) (o : AEnd) (u : Heap) (n : Nat) (r : R11) (h : r11 o u n = some r) : o = o11 r ∧ u = u11 r ∧ n = n11 r := by
  unfold r11 at h
  split at h
  · skip
    cases h; exact ⟨rfl, rfl, rfl⟩
  · cases h
structure S11_0 where
  mk ::
  x0 : Int
  x9 : List Int
  x10 : Int
  x11 : Int
def VS11_0 (s : S11_0) : List AV := [.int .i64 s.x0, .dsl 3 s.x9, .int .i64 s.x10, .int .i64 s.x11]
def HS11_0 (s : S11_0) : Heap := []
def dS11_0 (vs : List AV) (H : Heap) : Option S11_0 := match vs, H with
  | [.int .i64 x0, bx9, .int .i64 x10, .int .i64 x11], [] => (match (dslD 3 bx9 : Option (List Int)) with | some x9 => some (⟨x0, x9, x10, x11⟩ : S11_0) | none => none)
  | _, _ => none
theorem dS11_0_ok (vs : List AV) (H : Heap) (s : S11_0) (h : dS11_0 vs H = some s) : vs = VS11_0 s ∧ H = HS11_0 s := by
  unfold dS11_0 at h
  split at h
  · skip
    split at h
    · rename_i q
      have q := dslD_ok q
      subst q
      cases h; exact ⟨rfl, rfl⟩
    · cases h
  · cases h
def tS11_0 : AExit → List (Nat × Kd) := fun x => match x with
  | .normal => [(0, .any), (9, .rd 3), (10, .any), (11, .any)]
  | .exit i => (match i with | 0 => [(0, .any)] | _ => [])
  | .ret => [(4, .any)]
  | _ => []
structure E11_0 where
  mk ::
  x0 : Int
def VE11_0 (s : E11_0) : List AV := [.int .i64 s.x0]
def HE11_0 (s : E11_0) : Heap := []
def dE11_0 (x : AExit) (vs : List AV) (H : Heap) : Option E11_0 := match x, vs, H with
  | .exit 0, [.int .i64 x0], [] => some (⟨x0⟩ : E11_0)
  | _, _, _ => none
theorem dE11_0_ok (x : AExit) (vs : List AV) (H : Heap) (s : E11_0) (h : dE11_0 x vs H = some s) : x = .exit 0 ∧ vs = VE11_0 s ∧ H = HE11_0 s := by
  unfold dE11_0 at h
  split at h
  · skip
    cases h; exact ⟨rfl, rfl, rfl⟩
  · cases h
def xE11_0 (_ : E11_0) : AExit := .exit 0
def pS11_0 (k : Nat) (s : S11_0) : Option (S11_0 ⊕ E11_0) :=
  br (decide (S11_0.x11 s < S11_0.x10 s))
   (br (decide ((0 : Int) ≤ S11_0.x11 s ∧ S11_0.x11 s < (↑(List.length (S11_0.x9 s)) : Int)))
    (bindO (f27 k (List.getD (S11_0.x9 s) (Int.toNat (S11_0.x11 s)) (0 : Int))) fun r1500 =>
     br r1500
      (br (!decide (List.getD (S11_0.x9 s) (Int.toNat (S11_0.x11 s)) (0 : Int) < (0 : Int)))
       (some (Sum.inl (S11_0.mk (IntKind.wrap IntKind.i64 (↑(BitVec.toNat (BitVec.ofInt (64 : Nat) (S11_0.x0 s) ||| BitVec.ofInt (64 : Nat) (IntKind.wrap IntKind.i64 ((1 : Int) * (2 : Int) ^ Min.min (Int.toNat (List.getD (S11_0.x9 s) (Int.toNat (S11_0.x11 s)) (0 : Int))) (64 : Nat))))) : Int)) (S11_0.x9 s) (S11_0.x10 s) (IntKind.wrap IntKind.i64 (S11_0.x11 s + (1 : Int))))))
       (none))
      (some (Sum.inl (S11_0.mk (S11_0.x0 s) (S11_0.x9 s) (S11_0.x10 s) (IntKind.wrap IntKind.i64 (S11_0.x11 s + (1 : Int)))))))
    (none))
   (some (Sum.inr (E11_0.mk (S11_0.x0 s))))
theorem pS11_0_run (k : Nat) (s : S11_0) : evC (S11_0 ⊕ E11_0) Tryd.prog (ntmpsAt Tryd.prog 11) (cf6 k) ((Lm6 k) 11) 200 (loopAt Tryd.prog 11 0) (zipE [(0, .any), (9, .rd 3), (10, .any), (11, .any)] (VS11_0 s)) (HS11_0 s) (List.length (HS11_0 s)) (cutS plan 0 tS11_0 (rndT dS11_0 dE11_0)) = pS11_0 k s := by kernel_rfl
def l11_0 (k : Nat) (s : S11_0) : Option E11_0 := iterT (pS11_0 k) k s
def m11_0 (k : Nat) : LamS := lamT 0 dS11_0 (l11_0 k) (elAll _) tS11_0 xE11_0 VE11_0 HE11_0
theorem loop11_0 : isLoopAt Tryd.prog 11 0 = true := by kernel_rfl
theorem m11_0_ok (k : Nat) : LamSOk Tryd.prog (ntmpsAt Tryd.prog 11) 0 (.block 0 (.loop (loopAt Tryd.prog 11 0))) [(0, .any), (9, .rd 3), (10, .any), (11, .any)] (m11_0 k) := lamT_ok (plan := plan) (kb := 0) (body_run noNum mixed (cf6_ok k) (Lm6_ok k) loop11_0) rfl dS11_0_ok dE11_0_ok (hel := elAll_ok) (pS11_0_run k) k
def Dl7 (k : Nat) : Delta := Dl6 k
def Lm7 (k : Nat) : FuncId → Nat → Option LamF := lCons 11 0 (lamBy plan [12, 13, 14, 6, 15, 16, 17, 18, 19, 20, 0, 21, 11] [(0, .any), (9, .rd 3), (10, .any), (11, .any)] 0 (m11_0 k)) (Lm6 k)
theorem Dl7_ok (k : Nat) : DeltaOk Tryd.prog (Dl7 k) := Dl6_ok k
theorem Lm7_ok (k : Nat) : LamsOk Tryd.prog (Lm7 k) := lCons_ok (Lm6_ok k) loop11_0 (lamBy_ok (m11_0_ok k) (by kernel_rfl))
abbrev cf7 (k : Nat) : CallF := evF Tryd.prog (Dl7 k) (Lm7 k) 200 12
theorem cf7_ok (k : Nat) : CfOk Tryd.prog (cf7 k) := evF_ok noNum mixed (Dl7_ok k) (Lm7_ok k) 12
def f11 (k : Nat) (x0 : Int) (x1 : List Int) : Option R11 :=
  bindO (f26 k x0) fun r3000 =>
   bindO (l11_0 k (S11_0.mk r3000 x1 (↑(List.length x1) : Int) (0 : Int))) fun r2999 =>
    some (E11_0.x0 r2999)
theorem f11_run (k : Nat) (x0 : Int) (x1 : List Int) : cf7 k R11 11 (A11 (x0, x1)) [] 0 (endR planR (.any) [] 0 r11) = f11 k x0 x1 := by kernel_rfl
def g11 (k : Nat) : CallS := entT d11 (fun p => f11 k p.1 p.2) (elAll _) (fun _ => o11) (fun _ => u11) (fun _ => n11)
theorem g11_ok (k : Nat) : CallSOk Tryd.prog 11 (g11 k) := entry_ok (Hp := fun _ => []) (oR := fun _ => o11) (uR := fun _ => u11) (nR := fun _ => n11) (cf7_ok k) d11_ok r11_ok (hel := elAll_ok) (fun p => f11_run k p.1 p.2)
def Dl8 (k : Nat) : Delta := dCons 11 (callAt plan [.any, .rd 3] (g11 k)) (Dl7 k)
def Lm8 (k : Nat) : FuncId → Nat → Option LamF := Lm7 k
theorem Dl8_ok (k : Nat) : DeltaOk Tryd.prog (Dl8 k) := dCons_ok (Dl7_ok k) (g11_ok k)
theorem Lm8_ok (k : Nat) : LamsOk Tryd.prog (Lm8 k) := Lm7_ok k
abbrev cf8 (k : Nat) : CallF := evF Tryd.prog (Dl8 k) (Lm8 k) 200 12
theorem cf8_ok (k : Nat) : CfOk Tryd.prog (cf8 k) := evF_ok noNum mixed (Dl8_ok k) (Lm8_ok k) 12
abbrev P17 := List Int × List Int
def A17 (p : P17) : List AV := [.dsl 3 p.1, .dsl 3 p.2]
def d17 (a : List AV) (H : Heap) : Option P17 := match a, H with
  | [ba0, ba1], [] => (match (dslD 3 ba0 : Option (List Int)) with | some a0 => (match (dslD 3 ba1 : Option (List Int)) with | some a1 => some (a0, a1) | none => none) | none => none)
  | _, _ => none
theorem d17_ok (a : List AV) (H : Heap) (p : P17) (h : d17 a H = some p) : a = A17 p ∧ H = [] := by
  unfold d17 at h
  split at h
  · skip
    split at h
    · rename_i q
      have q := dslD_ok q
      subst q
      split at h
      · rename_i q
        have q := dslD_ok q
        subst q
        cases h; exact ⟨rfl, rfl⟩
      · cases h
    · cases h
  · cases h
abbrev R17 := Bool
def o17 (r : R17) : AEnd := .ret (.bool r)
def u17 (r : R17) : Heap := []
def n17 (_ : R17) : Nat := 0
def r17 (o : AEnd) (u : Heap) (n : Nat) : Option R17 := match o, u, n with
  | .ret (.bool a0), [], 0 => some (a0)
  | _, _, _ => none
theorem r17_ok (p : P17) (o : AEnd) (u : Heap) (n : Nat) (r : R17) (h : r17 o u n = some r) : o = o17 r ∧ u = u17 r ∧ n = n17 r := by
  unfold r17 at h
  split at h
  · skip
    cases h; exact ⟨rfl, rfl, rfl⟩
  · cases h
structure S17_0 where
  mk ::
  x0 : List Int
  x1 : List Int
  x5 : Int
def VS17_0 (s : S17_0) : List AV := [.dsl 3 s.x0, .dsl 3 s.x1, .int .i64 s.x5]
def HS17_0 (s : S17_0) : Heap := []
def dS17_0 (vs : List AV) (H : Heap) : Option S17_0 := match vs, H with
  | [bx0, bx1, .int .i64 x5], [] => (match (dslD 3 bx0 : Option (List Int)) with | some x0 => (match (dslD 3 bx1 : Option (List Int)) with | some x1 => some (⟨x0, x1, x5⟩ : S17_0) | none => none) | none => none)
  | _, _ => none
theorem dS17_0_ok (vs : List AV) (H : Heap) (s : S17_0) (h : dS17_0 vs H = some s) : vs = VS17_0 s ∧ H = HS17_0 s := by
  unfold dS17_0 at h
  split at h
  · skip
    split at h
    · rename_i q
      have q := dslD_ok q
      subst q
      split at h
      · rename_i q
        have q := dslD_ok q
        subst q
        cases h; exact ⟨rfl, rfl⟩
      · cases h
    · cases h
  · cases h
def tS17_0 : AExit → List (Nat × Kd) := fun x => match x with
  | .normal => [(0, .rd 3), (1, .rd 3), (5, .any)]
  | .exit i => (match i with | 0 => [] | _ => [])
  | .ret => [(4, .any)]
  | _ => []
structure E17_0 where
  mk ::
  x4 : Bool
def VE17_0 (s : E17_0) : List AV := [.bool s.x4]
def HE17_0 (s : E17_0) : Heap := []
def dE17_0 (x : AExit) (vs : List AV) (H : Heap) : Option E17_0 := match x, vs, H with
  | .ret, [.bool x4], [] => some (⟨x4⟩ : E17_0)
  | _, _, _ => none
theorem dE17_0_ok (x : AExit) (vs : List AV) (H : Heap) (s : E17_0) (h : dE17_0 x vs H = some s) : x = .ret ∧ vs = VE17_0 s ∧ H = HE17_0 s := by
  unfold dE17_0 at h
  split at h
  · skip
    cases h; exact ⟨rfl, rfl, rfl⟩
  · cases h
structure E17_0b where
  mk ::
def VE17_0b (s : E17_0b) : List AV := []
def HE17_0b (s : E17_0b) : Heap := []
def dE17_0b (x : AExit) (vs : List AV) (H : Heap) : Option E17_0b := match x, vs, H with
  | .exit 0, [], [] => some (⟨⟩ : E17_0b)
  | _, _, _ => none
theorem dE17_0b_ok (x : AExit) (vs : List AV) (H : Heap) (s : E17_0b) (h : dE17_0b x vs H = some s) : x = .exit 0 ∧ vs = VE17_0b s ∧ H = HE17_0b s := by
  unfold dE17_0b at h
  split at h
  · skip
    cases h; exact ⟨rfl, rfl, rfl⟩
  · cases h
abbrev EE17_0 := E17_0 ⊕ E17_0b
def xEE17_0 (e : EE17_0) : AExit := match e with | .inl _ => .ret | .inr _ => .exit 0
def VEE17_0 (e : EE17_0) : List AV := match e with | .inl s => VE17_0 s | .inr s => VE17_0b s
def HEE17_0 (e : EE17_0) : Heap := match e with | .inl s => HE17_0 s | .inr s => HE17_0b s
def dEE17_0 (x : AExit) (vs : List AV) (H : Heap) : Option EE17_0 := match dE17_0 x vs H with | some s => some (.inl s) | none => (match dE17_0b x vs H with | some s => some (.inr s) | none => none)
theorem dEE17_0_ok (x : AExit) (vs : List AV) (H : Heap) (s : EE17_0) (h : dEE17_0 x vs H = some s) : x = xEE17_0 s ∧ vs = VEE17_0 s ∧ H = HEE17_0 s := by
  unfold dEE17_0 at h
  split at h
  · rename_i q; cases h; exact dE17_0_ok _ _ _ _ q
  · split at h
    · rename_i q; cases h; exact dE17_0b_ok _ _ _ _ q
    · cases h
def pS17_0 (k : Nat) (s : S17_0) : Option (S17_0 ⊕ EE17_0) :=
  br (decide (S17_0.x5 s < (↑(List.length (S17_0.x0 s)) : Int)))
   (br (decide ((0 : Int) ≤ S17_0.x5 s ∧ S17_0.x5 s < (↑(List.length (S17_0.x0 s)) : Int)))
    (br (decide ((0 : Int) ≤ S17_0.x5 s ∧ S17_0.x5 s < (↑(List.length (S17_0.x1 s)) : Int)))
     (br (List.getD (S17_0.x0 s) (Int.toNat (S17_0.x5 s)) (0 : Int) != List.getD (S17_0.x1 s) (Int.toNat (S17_0.x5 s)) (0 : Int))
      (some (Sum.inr (Sum.inl (E17_0.mk false))))
      (some (Sum.inl (S17_0.mk (S17_0.x0 s) (S17_0.x1 s) (IntKind.wrap IntKind.i64 (S17_0.x5 s + (1 : Int)))))))
     (none))
    (none))
   (some (Sum.inr (Sum.inr E17_0b.mk)))
theorem pS17_0_run (k : Nat) (s : S17_0) : evC (S17_0 ⊕ EE17_0) Tryd.prog (ntmpsAt Tryd.prog 17) (cf8 k) ((Lm8 k) 17) 200 (loopAt Tryd.prog 17 0) (zipE [(0, .rd 3), (1, .rd 3), (5, .any)] (VS17_0 s)) (HS17_0 s) (List.length (HS17_0 s)) (cutS plan 0 tS17_0 (rndT dS17_0 dEE17_0)) = pS17_0 k s := by kernel_rfl
def l17_0 (k : Nat) (s : S17_0) : Option EE17_0 := iterT (pS17_0 k) k s
def m17_0 (k : Nat) : LamS := lamT 0 dS17_0 (l17_0 k) (elSum (elAll _) (elAll _)) tS17_0 xEE17_0 VEE17_0 HEE17_0
theorem loop17_0 : isLoopAt Tryd.prog 17 0 = true := by kernel_rfl
theorem m17_0_ok (k : Nat) : LamSOk Tryd.prog (ntmpsAt Tryd.prog 17) 0 (.block 0 (.loop (loopAt Tryd.prog 17 0))) [(0, .rd 3), (1, .rd 3), (5, .any)] (m17_0 k) := lamT_ok (plan := plan) (kb := 0) (body_run noNum mixed (cf8_ok k) (Lm8_ok k) loop17_0) rfl dS17_0_ok dEE17_0_ok (hel := (elSum_ok elAll_ok elAll_ok)) (pS17_0_run k) k
def Dl9 (k : Nat) : Delta := Dl8 k
def Lm9 (k : Nat) : FuncId → Nat → Option LamF := lCons 17 0 (lamBy plan [11, 12, 13, 14, 17, 18, 19, 20, 21, 22, 23, 24, 25, 4, 15, 16, 5] [(0, .rd 3), (1, .rd 3), (5, .any)] 0 (m17_0 k)) (Lm8 k)
theorem Dl9_ok (k : Nat) : DeltaOk Tryd.prog (Dl9 k) := Dl8_ok k
theorem Lm9_ok (k : Nat) : LamsOk Tryd.prog (Lm9 k) := lCons_ok (Lm8_ok k) loop17_0 (lamBy_ok (m17_0_ok k) (by kernel_rfl))
abbrev cf9 (k : Nat) : CallF := evF Tryd.prog (Dl9 k) (Lm9 k) 200 12
theorem cf9_ok (k : Nat) : CfOk Tryd.prog (cf9 k) := evF_ok noNum mixed (Dl9_ok k) (Lm9_ok k) 12
def f17 (k : Nat) (x0 : List Int) (x1 : List Int) : Option R17 :=
  br ((↑(List.length x0) : Int) != (↑(List.length x1) : Int))
   (some false)
   (bindO (l17_0 k (S17_0.mk x0 x1 (0 : Int))) fun r2999 =>
    match r2999 with
    | .inl c2998 => some (E17_0.x4 c2998)
    | .inr c2998 => some true)
theorem f17_run (k : Nat) (x0 : List Int) (x1 : List Int) : cf9 k R17 17 (A17 (x0, x1)) [] 0 (endR planR (.any) [] 0 r17) = f17 k x0 x1 := by kernel_rfl
def g17 (k : Nat) : CallS := entT d17 (fun p => f17 k p.1 p.2) (elAll _) (fun _ => o17) (fun _ => u17) (fun _ => n17)
theorem g17_ok (k : Nat) : CallSOk Tryd.prog 17 (g17 k) := entry_ok (Hp := fun _ => []) (oR := fun _ => o17) (uR := fun _ => u17) (nR := fun _ => n17) (cf9_ok k) d17_ok r17_ok (hel := elAll_ok) (fun p => f17_run k p.1 p.2)
def Dl10 (k : Nat) : Delta := dCons 17 (callAt plan [.rd 3, .rd 3] (g17 k)) (Dl9 k)
def Lm10 (k : Nat) : FuncId → Nat → Option LamF := Lm9 k
theorem Dl10_ok (k : Nat) : DeltaOk Tryd.prog (Dl10 k) := dCons_ok (Dl9_ok k) (g17_ok k)
theorem Lm10_ok (k : Nat) : LamsOk Tryd.prog (Lm10 k) := Lm9_ok k
abbrev cf10 (k : Nat) : CallF := evF Tryd.prog (Dl10 k) (Lm10 k) 200 12
theorem cf10_ok (k : Nat) : CfOk Tryd.prog (cf10 k) := evF_ok noNum mixed (Dl10_ok k) (Lm10_ok k) 12
abbrev P34 := Int
def A34 (p : P34) : List AV := [.int .u32 p]
def d34 (a : List AV) (H : Heap) : Option P34 := match a, H with
  | [.int .u32 a0], [] => some (a0)
  | _, _ => none
theorem d34_ok (a : List AV) (H : Heap) (p : P34) (h : d34 a H = some p) : a = A34 p ∧ H = [] := by
  unfold d34 at h
  split at h
  · skip
    cases h; exact ⟨rfl, rfl⟩
  · cases h
abbrev R34 := Int
def o34 (r : R34) : AEnd := .ret (.int .i64 r)
def u34 (r : R34) : Heap := []
def n34 (_ : R34) : Nat := 0
def r34 (o : AEnd) (u : Heap) (n : Nat) : Option R34 := match o, u, n with
  | .ret (.int .i64 a0), [], 0 => some (a0)
  | _, _, _ => none
theorem r34_ok (p : P34) (o : AEnd) (u : Heap) (n : Nat) (r : R34) (h : r34 o u n = some r) : o = o34 r ∧ u = u34 r ∧ n = n34 r := by
  unfold r34 at h
  split at h
  · skip
    cases h; exact ⟨rfl, rfl, rfl⟩
  · cases h
def f34 (k : Nat) (x0 : Int) : Option R34 :=
  br (decide ((0 : Int) ≤ Int.fdiv x0 (16777216 : Int) ∧ Int.fdiv x0 (16777216 : Int) < (256 : Int)))
   (br (decide ((0 : Int) ≤ IntKind.wrap IntKind.u32 (↑(BitVec.toNat (BitVec.ofInt (32 : Nat) (Int.fdiv x0 (65536 : Int)) &&& BitVec.ofInt (32 : Nat) (255 : Int))) : Int) ∧ IntKind.wrap IntKind.u32 (↑(BitVec.toNat (BitVec.ofInt (32 : Nat) (Int.fdiv x0 (65536 : Int)) &&& BitVec.ofInt (32 : Nat) (255 : Int))) : Int) < (256 : Int)))
    (br (decide ((0 : Int) ≤ IntKind.wrap IntKind.u32 (↑(BitVec.toNat (BitVec.ofInt (32 : Nat) (Int.fdiv x0 (256 : Int)) &&& BitVec.ofInt (32 : Nat) (255 : Int))) : Int) ∧ IntKind.wrap IntKind.u32 (↑(BitVec.toNat (BitVec.ofInt (32 : Nat) (Int.fdiv x0 (256 : Int)) &&& BitVec.ofInt (32 : Nat) (255 : Int))) : Int) < (256 : Int)))
     (br (decide ((0 : Int) ≤ IntKind.wrap IntKind.u32 (↑(BitVec.toNat (BitVec.ofInt (32 : Nat) x0 &&& BitVec.ofInt (32 : Nat) (255 : Int))) : Int) ∧ IntKind.wrap IntKind.u32 (↑(BitVec.toNat (BitVec.ofInt (32 : Nat) x0 &&& BitVec.ofInt (32 : Nat) (255 : Int))) : Int) < (256 : Int)))
      (some (IntKind.wrap IntKind.i64 (IntKind.wrap IntKind.u8 (IntKind.wrap IntKind.u8 (IntKind.wrap IntKind.u8 ((↑(UInt8.toNat (Array.getD (ByteArray.data (ByteArray.mk (List.toArray (List.append (List.append [(0 : UInt8), (1 : UInt8), (1 : UInt8), (2 : UInt8), (1 : UInt8), (2 : UInt8), (2 : UInt8), (3 : UInt8), (1 : UInt8), (2 : UInt8), (2 : UInt8), (3 : UInt8), (2 : UInt8), (3 : UInt8), (3 : UInt8), (4 : UInt8), (1 : UInt8), (2 : UInt8), (2 : UInt8), (3 : UInt8), (2 : UInt8), (3 : UInt8), (3 : UInt8), (4 : UInt8), (2 : UInt8), (3 : UInt8), (3 : UInt8), (4 : UInt8), (3 : UInt8), (4 : UInt8), (4 : UInt8), (5 : UInt8), (1 : UInt8), (2 : UInt8), (2 : UInt8), (3 : UInt8), (2 : UInt8), (3 : UInt8), (3 : UInt8), (4 : UInt8), (2 : UInt8), (3 : UInt8), (3 : UInt8), (4 : UInt8), (3 : UInt8), (4 : UInt8), (4 : UInt8), (5 : UInt8), (2 : UInt8), (3 : UInt8), (3 : UInt8), (4 : UInt8), (3 : UInt8), (4 : UInt8), (4 : UInt8), (5 : UInt8), (3 : UInt8), (4 : UInt8), (4 : UInt8), (5 : UInt8), (4 : UInt8), (5 : UInt8), (5 : UInt8), (6 : UInt8)] [(1 : UInt8), (2 : UInt8), (2 : UInt8), (3 : UInt8), (2 : UInt8), (3 : UInt8), (3 : UInt8), (4 : UInt8), (2 : UInt8), (3 : UInt8), (3 : UInt8), (4 : UInt8), (3 : UInt8), (4 : UInt8), (4 : UInt8), (5 : UInt8), (2 : UInt8), (3 : UInt8), (3 : UInt8), (4 : UInt8), (3 : UInt8), (4 : UInt8), (4 : UInt8), (5 : UInt8), (3 : UInt8), (4 : UInt8), (4 : UInt8), (5 : UInt8), (4 : UInt8), (5 : UInt8), (5 : UInt8), (6 : UInt8), (2 : UInt8), (3 : UInt8), (3 : UInt8), (4 : UInt8), (3 : UInt8), (4 : UInt8), (4 : UInt8), (5 : UInt8), (3 : UInt8), (4 : UInt8), (4 : UInt8), (5 : UInt8), (4 : UInt8), (5 : UInt8), (5 : UInt8), (6 : UInt8), (3 : UInt8), (4 : UInt8), (4 : UInt8), (5 : UInt8), (4 : UInt8), (5 : UInt8), (5 : UInt8), (6 : UInt8), (4 : UInt8), (5 : UInt8), (5 : UInt8), (6 : UInt8), (5 : UInt8), (6 : UInt8), (6 : UInt8), (7 : UInt8)]) (List.append [(1 : UInt8), (2 : UInt8), (2 : UInt8), (3 : UInt8), (2 : UInt8), (3 : UInt8), (3 : UInt8), (4 : UInt8), (2 : UInt8), (3 : UInt8), (3 : UInt8), (4 : UInt8), (3 : UInt8), (4 : UInt8), (4 : UInt8), (5 : UInt8), (2 : UInt8), (3 : UInt8), (3 : UInt8), (4 : UInt8), (3 : UInt8), (4 : UInt8), (4 : UInt8), (5 : UInt8), (3 : UInt8), (4 : UInt8), (4 : UInt8), (5 : UInt8), (4 : UInt8), (5 : UInt8), (5 : UInt8), (6 : UInt8), (2 : UInt8), (3 : UInt8), (3 : UInt8), (4 : UInt8), (3 : UInt8), (4 : UInt8), (4 : UInt8), (5 : UInt8), (3 : UInt8), (4 : UInt8), (4 : UInt8), (5 : UInt8), (4 : UInt8), (5 : UInt8), (5 : UInt8), (6 : UInt8), (3 : UInt8), (4 : UInt8), (4 : UInt8), (5 : UInt8), (4 : UInt8), (5 : UInt8), (5 : UInt8), (6 : UInt8), (4 : UInt8), (5 : UInt8), (5 : UInt8), (6 : UInt8), (5 : UInt8), (6 : UInt8), (6 : UInt8), (7 : UInt8)] [(2 : UInt8), (3 : UInt8), (3 : UInt8), (4 : UInt8), (3 : UInt8), (4 : UInt8), (4 : UInt8), (5 : UInt8), (3 : UInt8), (4 : UInt8), (4 : UInt8), (5 : UInt8), (4 : UInt8), (5 : UInt8), (5 : UInt8), (6 : UInt8), (3 : UInt8), (4 : UInt8), (4 : UInt8), (5 : UInt8), (4 : UInt8), (5 : UInt8), (5 : UInt8), (6 : UInt8), (4 : UInt8), (5 : UInt8), (5 : UInt8), (6 : UInt8), (5 : UInt8), (6 : UInt8), (6 : UInt8), (7 : UInt8), (3 : UInt8), (4 : UInt8), (4 : UInt8), (5 : UInt8), (4 : UInt8), (5 : UInt8), (5 : UInt8), (6 : UInt8), (4 : UInt8), (5 : UInt8), (5 : UInt8), (6 : UInt8), (5 : UInt8), (6 : UInt8), (6 : UInt8), (7 : UInt8), (4 : UInt8), (5 : UInt8), (5 : UInt8), (6 : UInt8), (5 : UInt8), (6 : UInt8), (6 : UInt8), (7 : UInt8), (5 : UInt8), (6 : UInt8), (6 : UInt8), (7 : UInt8), (6 : UInt8), (7 : UInt8), (7 : UInt8), (8 : UInt8)]))))) (Int.toNat (Int.fdiv x0 (16777216 : Int))) (0 : UInt8))) : Int) + (↑(UInt8.toNat (Array.getD (ByteArray.data (ByteArray.mk (List.toArray (List.append (List.append [(0 : UInt8), (1 : UInt8), (1 : UInt8), (2 : UInt8), (1 : UInt8), (2 : UInt8), (2 : UInt8), (3 : UInt8), (1 : UInt8), (2 : UInt8), (2 : UInt8), (3 : UInt8), (2 : UInt8), (3 : UInt8), (3 : UInt8), (4 : UInt8), (1 : UInt8), (2 : UInt8), (2 : UInt8), (3 : UInt8), (2 : UInt8), (3 : UInt8), (3 : UInt8), (4 : UInt8), (2 : UInt8), (3 : UInt8), (3 : UInt8), (4 : UInt8), (3 : UInt8), (4 : UInt8), (4 : UInt8), (5 : UInt8), (1 : UInt8), (2 : UInt8), (2 : UInt8), (3 : UInt8), (2 : UInt8), (3 : UInt8), (3 : UInt8), (4 : UInt8), (2 : UInt8), (3 : UInt8), (3 : UInt8), (4 : UInt8), (3 : UInt8), (4 : UInt8), (4 : UInt8), (5 : UInt8), (2 : UInt8), (3 : UInt8), (3 : UInt8), (4 : UInt8), (3 : UInt8), (4 : UInt8), (4 : UInt8), (5 : UInt8), (3 : UInt8), (4 : UInt8), (4 : UInt8), (5 : UInt8), (4 : UInt8), (5 : UInt8), (5 : UInt8), (6 : UInt8)] [(1 : UInt8), (2 : UInt8), (2 : UInt8), (3 : UInt8), (2 : UInt8), (3 : UInt8), (3 : UInt8), (4 : UInt8), (2 : UInt8), (3 : UInt8), (3 : UInt8), (4 : UInt8), (3 : UInt8), (4 : UInt8), (4 : UInt8), (5 : UInt8), (2 : UInt8), (3 : UInt8), (3 : UInt8), (4 : UInt8), (3 : UInt8), (4 : UInt8), (4 : UInt8), (5 : UInt8), (3 : UInt8), (4 : UInt8), (4 : UInt8), (5 : UInt8), (4 : UInt8), (5 : UInt8), (5 : UInt8), (6 : UInt8), (2 : UInt8), (3 : UInt8), (3 : UInt8), (4 : UInt8), (3 : UInt8), (4 : UInt8), (4 : UInt8), (5 : UInt8), (3 : UInt8), (4 : UInt8), (4 : UInt8), (5 : UInt8), (4 : UInt8), (5 : UInt8), (5 : UInt8), (6 : UInt8), (3 : UInt8), (4 : UInt8), (4 : UInt8), (5 : UInt8), (4 : UInt8), (5 : UInt8), (5 : UInt8), (6 : UInt8), (4 : UInt8), (5 : UInt8), (5 : UInt8), (6 : UInt8), (5 : UInt8), (6 : UInt8), (6 : UInt8), (7 : UInt8)]) (List.append [(1 : UInt8), (2 : UInt8), (2 : UInt8), (3 : UInt8), (2 : UInt8), (3 : UInt8), (3 : UInt8), (4 : UInt8), (2 : UInt8), (3 : UInt8), (3 : UInt8), (4 : UInt8), (3 : UInt8), (4 : UInt8), (4 : UInt8), (5 : UInt8), (2 : UInt8), (3 : UInt8), (3 : UInt8), (4 : UInt8), (3 : UInt8), (4 : UInt8), (4 : UInt8), (5 : UInt8), (3 : UInt8), (4 : UInt8), (4 : UInt8), (5 : UInt8), (4 : UInt8), (5 : UInt8), (5 : UInt8), (6 : UInt8), (2 : UInt8), (3 : UInt8), (3 : UInt8), (4 : UInt8), (3 : UInt8), (4 : UInt8), (4 : UInt8), (5 : UInt8), (3 : UInt8), (4 : UInt8), (4 : UInt8), (5 : UInt8), (4 : UInt8), (5 : UInt8), (5 : UInt8), (6 : UInt8), (3 : UInt8), (4 : UInt8), (4 : UInt8), (5 : UInt8), (4 : UInt8), (5 : UInt8), (5 : UInt8), (6 : UInt8), (4 : UInt8), (5 : UInt8), (5 : UInt8), (6 : UInt8), (5 : UInt8), (6 : UInt8), (6 : UInt8), (7 : UInt8)] [(2 : UInt8), (3 : UInt8), (3 : UInt8), (4 : UInt8), (3 : UInt8), (4 : UInt8), (4 : UInt8), (5 : UInt8), (3 : UInt8), (4 : UInt8), (4 : UInt8), (5 : UInt8), (4 : UInt8), (5 : UInt8), (5 : UInt8), (6 : UInt8), (3 : UInt8), (4 : UInt8), (4 : UInt8), (5 : UInt8), (4 : UInt8), (5 : UInt8), (5 : UInt8), (6 : UInt8), (4 : UInt8), (5 : UInt8), (5 : UInt8), (6 : UInt8), (5 : UInt8), (6 : UInt8), (6 : UInt8), (7 : UInt8), (3 : UInt8), (4 : UInt8), (4 : UInt8), (5 : UInt8), (4 : UInt8), (5 : UInt8), (5 : UInt8), (6 : UInt8), (4 : UInt8), (5 : UInt8), (5 : UInt8), (6 : UInt8), (5 : UInt8), (6 : UInt8), (6 : UInt8), (7 : UInt8), (4 : UInt8), (5 : UInt8), (5 : UInt8), (6 : UInt8), (5 : UInt8), (6 : UInt8), (6 : UInt8), (7 : UInt8), (5 : UInt8), (6 : UInt8), (6 : UInt8), (7 : UInt8), (6 : UInt8), (7 : UInt8), (7 : UInt8), (8 : UInt8)]))))) (Int.toNat (IntKind.wrap IntKind.u32 (↑(BitVec.toNat (BitVec.ofInt (32 : Nat) (Int.fdiv x0 (65536 : Int)) &&& BitVec.ofInt (32 : Nat) (255 : Int))) : Int))) (0 : UInt8))) : Int)) + (↑(UInt8.toNat (Array.getD (ByteArray.data (ByteArray.mk (List.toArray (List.append (List.append [(0 : UInt8), (1 : UInt8), (1 : UInt8), (2 : UInt8), (1 : UInt8), (2 : UInt8), (2 : UInt8), (3 : UInt8), (1 : UInt8), (2 : UInt8), (2 : UInt8), (3 : UInt8), (2 : UInt8), (3 : UInt8), (3 : UInt8), (4 : UInt8), (1 : UInt8), (2 : UInt8), (2 : UInt8), (3 : UInt8), (2 : UInt8), (3 : UInt8), (3 : UInt8), (4 : UInt8), (2 : UInt8), (3 : UInt8), (3 : UInt8), (4 : UInt8), (3 : UInt8), (4 : UInt8), (4 : UInt8), (5 : UInt8), (1 : UInt8), (2 : UInt8), (2 : UInt8), (3 : UInt8), (2 : UInt8), (3 : UInt8), (3 : UInt8), (4 : UInt8), (2 : UInt8), (3 : UInt8), (3 : UInt8), (4 : UInt8), (3 : UInt8), (4 : UInt8), (4 : UInt8), (5 : UInt8), (2 : UInt8), (3 : UInt8), (3 : UInt8), (4 : UInt8), (3 : UInt8), (4 : UInt8), (4 : UInt8), (5 : UInt8), (3 : UInt8), (4 : UInt8), (4 : UInt8), (5 : UInt8), (4 : UInt8), (5 : UInt8), (5 : UInt8), (6 : UInt8)] [(1 : UInt8), (2 : UInt8), (2 : UInt8), (3 : UInt8), (2 : UInt8), (3 : UInt8), (3 : UInt8), (4 : UInt8), (2 : UInt8), (3 : UInt8), (3 : UInt8), (4 : UInt8), (3 : UInt8), (4 : UInt8), (4 : UInt8), (5 : UInt8), (2 : UInt8), (3 : UInt8), (3 : UInt8), (4 : UInt8), (3 : UInt8), (4 : UInt8), (4 : UInt8), (5 : UInt8), (3 : UInt8), (4 : UInt8), (4 : UInt8), (5 : UInt8), (4 : UInt8), (5 : UInt8), (5 : UInt8), (6 : UInt8), (2 : UInt8), (3 : UInt8), (3 : UInt8), (4 : UInt8), (3 : UInt8), (4 : UInt8), (4 : UInt8), (5 : UInt8), (3 : UInt8), (4 : UInt8), (4 : UInt8), (5 : UInt8), (4 : UInt8), (5 : UInt8), (5 : UInt8), (6 : UInt8), (3 : UInt8), (4 : UInt8), (4 : UInt8), (5 : UInt8), (4 : UInt8), (5 : UInt8), (5 : UInt8), (6 : UInt8), (4 : UInt8), (5 : UInt8), (5 : UInt8), (6 : UInt8), (5 : UInt8), (6 : UInt8), (6 : UInt8), (7 : UInt8)]) (List.append [(1 : UInt8), (2 : UInt8), (2 : UInt8), (3 : UInt8), (2 : UInt8), (3 : UInt8), (3 : UInt8), (4 : UInt8), (2 : UInt8), (3 : UInt8), (3 : UInt8), (4 : UInt8), (3 : UInt8), (4 : UInt8), (4 : UInt8), (5 : UInt8), (2 : UInt8), (3 : UInt8), (3 : UInt8), (4 : UInt8), (3 : UInt8), (4 : UInt8), (4 : UInt8), (5 : UInt8), (3 : UInt8), (4 : UInt8), (4 : UInt8), (5 : UInt8), (4 : UInt8), (5 : UInt8), (5 : UInt8), (6 : UInt8), (2 : UInt8), (3 : UInt8), (3 : UInt8), (4 : UInt8), (3 : UInt8), (4 : UInt8), (4 : UInt8), (5 : UInt8), (3 : UInt8), (4 : UInt8), (4 : UInt8), (5 : UInt8), (4 : UInt8), (5 : UInt8), (5 : UInt8), (6 : UInt8), (3 : UInt8), (4 : UInt8), (4 : UInt8), (5 : UInt8), (4 : UInt8), (5 : UInt8), (5 : UInt8), (6 : UInt8), (4 : UInt8), (5 : UInt8), (5 : UInt8), (6 : UInt8), (5 : UInt8), (6 : UInt8), (6 : UInt8), (7 : UInt8)] [(2 : UInt8), (3 : UInt8), (3 : UInt8), (4 : UInt8), (3 : UInt8), (4 : UInt8), (4 : UInt8), (5 : UInt8), (3 : UInt8), (4 : UInt8), (4 : UInt8), (5 : UInt8), (4 : UInt8), (5 : UInt8), (5 : UInt8), (6 : UInt8), (3 : UInt8), (4 : UInt8), (4 : UInt8), (5 : UInt8), (4 : UInt8), (5 : UInt8), (5 : UInt8), (6 : UInt8), (4 : UInt8), (5 : UInt8), (5 : UInt8), (6 : UInt8), (5 : UInt8), (6 : UInt8), (6 : UInt8), (7 : UInt8), (3 : UInt8), (4 : UInt8), (4 : UInt8), (5 : UInt8), (4 : UInt8), (5 : UInt8), (5 : UInt8), (6 : UInt8), (4 : UInt8), (5 : UInt8), (5 : UInt8), (6 : UInt8), (5 : UInt8), (6 : UInt8), (6 : UInt8), (7 : UInt8), (4 : UInt8), (5 : UInt8), (5 : UInt8), (6 : UInt8), (5 : UInt8), (6 : UInt8), (6 : UInt8), (7 : UInt8), (5 : UInt8), (6 : UInt8), (6 : UInt8), (7 : UInt8), (6 : UInt8), (7 : UInt8), (7 : UInt8), (8 : UInt8)]))))) (Int.toNat (IntKind.wrap IntKind.u32 (↑(BitVec.toNat (BitVec.ofInt (32 : Nat) (Int.fdiv x0 (256 : Int)) &&& BitVec.ofInt (32 : Nat) (255 : Int))) : Int))) (0 : UInt8))) : Int)) + (↑(UInt8.toNat (Array.getD (ByteArray.data (ByteArray.mk (List.toArray (List.append (List.append [(0 : UInt8), (1 : UInt8), (1 : UInt8), (2 : UInt8), (1 : UInt8), (2 : UInt8), (2 : UInt8), (3 : UInt8), (1 : UInt8), (2 : UInt8), (2 : UInt8), (3 : UInt8), (2 : UInt8), (3 : UInt8), (3 : UInt8), (4 : UInt8), (1 : UInt8), (2 : UInt8), (2 : UInt8), (3 : UInt8), (2 : UInt8), (3 : UInt8), (3 : UInt8), (4 : UInt8), (2 : UInt8), (3 : UInt8), (3 : UInt8), (4 : UInt8), (3 : UInt8), (4 : UInt8), (4 : UInt8), (5 : UInt8), (1 : UInt8), (2 : UInt8), (2 : UInt8), (3 : UInt8), (2 : UInt8), (3 : UInt8), (3 : UInt8), (4 : UInt8), (2 : UInt8), (3 : UInt8), (3 : UInt8), (4 : UInt8), (3 : UInt8), (4 : UInt8), (4 : UInt8), (5 : UInt8), (2 : UInt8), (3 : UInt8), (3 : UInt8), (4 : UInt8), (3 : UInt8), (4 : UInt8), (4 : UInt8), (5 : UInt8), (3 : UInt8), (4 : UInt8), (4 : UInt8), (5 : UInt8), (4 : UInt8), (5 : UInt8), (5 : UInt8), (6 : UInt8)] [(1 : UInt8), (2 : UInt8), (2 : UInt8), (3 : UInt8), (2 : UInt8), (3 : UInt8), (3 : UInt8), (4 : UInt8), (2 : UInt8), (3 : UInt8), (3 : UInt8), (4 : UInt8), (3 : UInt8), (4 : UInt8), (4 : UInt8), (5 : UInt8), (2 : UInt8), (3 : UInt8), (3 : UInt8), (4 : UInt8), (3 : UInt8), (4 : UInt8), (4 : UInt8), (5 : UInt8), (3 : UInt8), (4 : UInt8), (4 : UInt8), (5 : UInt8), (4 : UInt8), (5 : UInt8), (5 : UInt8), (6 : UInt8), (2 : UInt8), (3 : UInt8), (3 : UInt8), (4 : UInt8), (3 : UInt8), (4 : UInt8), (4 : UInt8), (5 : UInt8), (3 : UInt8), (4 : UInt8), (4 : UInt8), (5 : UInt8), (4 : UInt8), (5 : UInt8), (5 : UInt8), (6 : UInt8), (3 : UInt8), (4 : UInt8), (4 : UInt8), (5 : UInt8), (4 : UInt8), (5 : UInt8), (5 : UInt8), (6 : UInt8), (4 : UInt8), (5 : UInt8), (5 : UInt8), (6 : UInt8), (5 : UInt8), (6 : UInt8), (6 : UInt8), (7 : UInt8)]) (List.append [(1 : UInt8), (2 : UInt8), (2 : UInt8), (3 : UInt8), (2 : UInt8), (3 : UInt8), (3 : UInt8), (4 : UInt8), (2 : UInt8), (3 : UInt8), (3 : UInt8), (4 : UInt8), (3 : UInt8), (4 : UInt8), (4 : UInt8), (5 : UInt8), (2 : UInt8), (3 : UInt8), (3 : UInt8), (4 : UInt8), (3 : UInt8), (4 : UInt8), (4 : UInt8), (5 : UInt8), (3 : UInt8), (4 : UInt8), (4 : UInt8), (5 : UInt8), (4 : UInt8), (5 : UInt8), (5 : UInt8), (6 : UInt8), (2 : UInt8), (3 : UInt8), (3 : UInt8), (4 : UInt8), (3 : UInt8), (4 : UInt8), (4 : UInt8), (5 : UInt8), (3 : UInt8), (4 : UInt8), (4 : UInt8), (5 : UInt8), (4 : UInt8), (5 : UInt8), (5 : UInt8), (6 : UInt8), (3 : UInt8), (4 : UInt8), (4 : UInt8), (5 : UInt8), (4 : UInt8), (5 : UInt8), (5 : UInt8), (6 : UInt8), (4 : UInt8), (5 : UInt8), (5 : UInt8), (6 : UInt8), (5 : UInt8), (6 : UInt8), (6 : UInt8), (7 : UInt8)] [(2 : UInt8), (3 : UInt8), (3 : UInt8), (4 : UInt8), (3 : UInt8), (4 : UInt8), (4 : UInt8), (5 : UInt8), (3 : UInt8), (4 : UInt8), (4 : UInt8), (5 : UInt8), (4 : UInt8), (5 : UInt8), (5 : UInt8), (6 : UInt8), (3 : UInt8), (4 : UInt8), (4 : UInt8), (5 : UInt8), (4 : UInt8), (5 : UInt8), (5 : UInt8), (6 : UInt8), (4 : UInt8), (5 : UInt8), (5 : UInt8), (6 : UInt8), (5 : UInt8), (6 : UInt8), (6 : UInt8), (7 : UInt8), (3 : UInt8), (4 : UInt8), (4 : UInt8), (5 : UInt8), (4 : UInt8), (5 : UInt8), (5 : UInt8), (6 : UInt8), (4 : UInt8), (5 : UInt8), (5 : UInt8), (6 : UInt8), (5 : UInt8), (6 : UInt8), (6 : UInt8), (7 : UInt8), (4 : UInt8), (5 : UInt8), (5 : UInt8), (6 : UInt8), (5 : UInt8), (6 : UInt8), (6 : UInt8), (7 : UInt8), (5 : UInt8), (6 : UInt8), (6 : UInt8), (7 : UInt8), (6 : UInt8), (7 : UInt8), (7 : UInt8), (8 : UInt8)]))))) (Int.toNat (IntKind.wrap IntKind.u32 (↑(BitVec.toNat (BitVec.ofInt (32 : Nat) x0 &&& BitVec.ofInt (32 : Nat) (255 : Int))) : Int))) (0 : UInt8))) : Int)))))
      (none))
     (none))
    (none))
   (none)
theorem f34_run (k : Nat) (x0 : Int) : cf10 k R34 34 (A34 (x0)) [] 0 (endR planR (.any) [] 0 r34) = f34 k x0 := by kernel_rfl
def g34 (k : Nat) : CallS := entT d34 (fun p => f34 k p) (elAll _) (fun _ => o34) (fun _ => u34) (fun _ => n34)
theorem g34_ok (k : Nat) : CallSOk Tryd.prog 34 (g34 k) := entry_ok (Hp := fun _ => []) (oR := fun _ => o34) (uR := fun _ => u34) (nR := fun _ => n34) (cf10_ok k) d34_ok r34_ok (hel := elAll_ok) (fun p => f34_run k p)
def Dl11 (k : Nat) : Delta := dCons 34 (callAt plan [.any] (g34 k)) (Dl10 k)
def Lm11 (k : Nat) : FuncId → Nat → Option LamF := Lm10 k
theorem Dl11_ok (k : Nat) : DeltaOk Tryd.prog (Dl11 k) := dCons_ok (Dl10_ok k) (g34_ok k)
theorem Lm11_ok (k : Nat) : LamsOk Tryd.prog (Lm11 k) := Lm10_ok k
abbrev cf11 (k : Nat) : CallF := evF Tryd.prog (Dl11 k) (Lm11 k) 200 12
theorem cf11_ok (k : Nat) : CfOk Tryd.prog (cf11 k) := evF_ok noNum mixed (Dl11_ok k) (Lm11_ok k) 12
abbrev P35 := Int
def A35 (p : P35) : List AV := [.int .u64 p]
def d35 (a : List AV) (H : Heap) : Option P35 := match a, H with
  | [.int .u64 a0], [] => some (a0)
  | _, _ => none
theorem d35_ok (a : List AV) (H : Heap) (p : P35) (h : d35 a H = some p) : a = A35 p ∧ H = [] := by
  unfold d35 at h
  split at h
  · skip
    cases h; exact ⟨rfl, rfl⟩
  · cases h
abbrev R35 := Int
def o35 (r : R35) : AEnd := .ret (.int .i64 r)
def u35 (r : R35) : Heap := []
def n35 (_ : R35) : Nat := 0
def r35 (o : AEnd) (u : Heap) (n : Nat) : Option R35 := match o, u, n with
  | .ret (.int .i64 a0), [], 0 => some (a0)
  | _, _, _ => none
theorem r35_ok (p : P35) (o : AEnd) (u : Heap) (n : Nat) (r : R35) (h : r35 o u n = some r) : o = o35 r ∧ u = u35 r ∧ n = n35 r := by
  unfold r35 at h
  split at h
  · skip
    cases h; exact ⟨rfl, rfl, rfl⟩
  · cases h
def f35 (k : Nat) (x0 : Int) : Option R35 :=
  some (IntKind.wrap IntKind.i64 (↑(BitVec.toNat (BitVec.ofInt (64 : Nat) (IntKind.wrap IntKind.i64 (IntKind.wrap IntKind.u64 (IntKind.wrap IntKind.u64 (IntKind.wrap IntKind.u64 (IntKind.wrap IntKind.u64 (↑(BitVec.toNat (BitVec.ofInt (64 : Nat) (IntKind.wrap IntKind.u64 (Int.fdiv (IntKind.wrap IntKind.u64 (IntKind.wrap IntKind.u64 (↑(BitVec.toNat (BitVec.ofInt (64 : Nat) (Int.fdiv (IntKind.wrap IntKind.u64 (IntKind.wrap IntKind.u64 (↑(BitVec.toNat (BitVec.ofInt (64 : Nat) (Int.fdiv x0 (2 : Int)) &&& BitVec.ofInt (64 : Nat) (6148914691236517205 : Int))) : Int) + IntKind.wrap IntKind.u64 (↑(BitVec.toNat (BitVec.ofInt (64 : Nat) x0 &&& BitVec.ofInt (64 : Nat) (6148914691236517205 : Int))) : Int))) (4 : Int)) &&& BitVec.ofInt (64 : Nat) (3689348814741910323 : Int))) : Int) + IntKind.wrap IntKind.u64 (↑(BitVec.toNat (BitVec.ofInt (64 : Nat) (IntKind.wrap IntKind.u64 (IntKind.wrap IntKind.u64 (↑(BitVec.toNat (BitVec.ofInt (64 : Nat) (Int.fdiv x0 (2 : Int)) &&& BitVec.ofInt (64 : Nat) (6148914691236517205 : Int))) : Int) + IntKind.wrap IntKind.u64 (↑(BitVec.toNat (BitVec.ofInt (64 : Nat) x0 &&& BitVec.ofInt (64 : Nat) (6148914691236517205 : Int))) : Int))) &&& BitVec.ofInt (64 : Nat) (3689348814741910323 : Int))) : Int))) (16 : Int) + IntKind.wrap IntKind.u64 (IntKind.wrap IntKind.u64 (↑(BitVec.toNat (BitVec.ofInt (64 : Nat) (Int.fdiv (IntKind.wrap IntKind.u64 (IntKind.wrap IntKind.u64 (↑(BitVec.toNat (BitVec.ofInt (64 : Nat) (Int.fdiv x0 (2 : Int)) &&& BitVec.ofInt (64 : Nat) (6148914691236517205 : Int))) : Int) + IntKind.wrap IntKind.u64 (↑(BitVec.toNat (BitVec.ofInt (64 : Nat) x0 &&& BitVec.ofInt (64 : Nat) (6148914691236517205 : Int))) : Int))) (4 : Int)) &&& BitVec.ofInt (64 : Nat) (3689348814741910323 : Int))) : Int) + IntKind.wrap IntKind.u64 (↑(BitVec.toNat (BitVec.ofInt (64 : Nat) (IntKind.wrap IntKind.u64 (IntKind.wrap IntKind.u64 (↑(BitVec.toNat (BitVec.ofInt (64 : Nat) (Int.fdiv x0 (2 : Int)) &&& BitVec.ofInt (64 : Nat) (6148914691236517205 : Int))) : Int) + IntKind.wrap IntKind.u64 (↑(BitVec.toNat (BitVec.ofInt (64 : Nat) x0 &&& BitVec.ofInt (64 : Nat) (6148914691236517205 : Int))) : Int))) &&& BitVec.ofInt (64 : Nat) (3689348814741910323 : Int))) : Int)))) &&& BitVec.ofInt (64 : Nat) (1085102592571150095 : Int))) : Int) + Int.fdiv (IntKind.wrap IntKind.u64 (↑(BitVec.toNat (BitVec.ofInt (64 : Nat) (IntKind.wrap IntKind.u64 (Int.fdiv (IntKind.wrap IntKind.u64 (IntKind.wrap IntKind.u64 (↑(BitVec.toNat (BitVec.ofInt (64 : Nat) (Int.fdiv (IntKind.wrap IntKind.u64 (IntKind.wrap IntKind.u64 (↑(BitVec.toNat (BitVec.ofInt (64 : Nat) (Int.fdiv x0 (2 : Int)) &&& BitVec.ofInt (64 : Nat) (6148914691236517205 : Int))) : Int) + IntKind.wrap IntKind.u64 (↑(BitVec.toNat (BitVec.ofInt (64 : Nat) x0 &&& BitVec.ofInt (64 : Nat) (6148914691236517205 : Int))) : Int))) (4 : Int)) &&& BitVec.ofInt (64 : Nat) (3689348814741910323 : Int))) : Int) + IntKind.wrap IntKind.u64 (↑(BitVec.toNat (BitVec.ofInt (64 : Nat) (IntKind.wrap IntKind.u64 (IntKind.wrap IntKind.u64 (↑(BitVec.toNat (BitVec.ofInt (64 : Nat) (Int.fdiv x0 (2 : Int)) &&& BitVec.ofInt (64 : Nat) (6148914691236517205 : Int))) : Int) + IntKind.wrap IntKind.u64 (↑(BitVec.toNat (BitVec.ofInt (64 : Nat) x0 &&& BitVec.ofInt (64 : Nat) (6148914691236517205 : Int))) : Int))) &&& BitVec.ofInt (64 : Nat) (3689348814741910323 : Int))) : Int))) (16 : Int) + IntKind.wrap IntKind.u64 (IntKind.wrap IntKind.u64 (↑(BitVec.toNat (BitVec.ofInt (64 : Nat) (Int.fdiv (IntKind.wrap IntKind.u64 (IntKind.wrap IntKind.u64 (↑(BitVec.toNat (BitVec.ofInt (64 : Nat) (Int.fdiv x0 (2 : Int)) &&& BitVec.ofInt (64 : Nat) (6148914691236517205 : Int))) : Int) + IntKind.wrap IntKind.u64 (↑(BitVec.toNat (BitVec.ofInt (64 : Nat) x0 &&& BitVec.ofInt (64 : Nat) (6148914691236517205 : Int))) : Int))) (4 : Int)) &&& BitVec.ofInt (64 : Nat) (3689348814741910323 : Int))) : Int) + IntKind.wrap IntKind.u64 (↑(BitVec.toNat (BitVec.ofInt (64 : Nat) (IntKind.wrap IntKind.u64 (IntKind.wrap IntKind.u64 (↑(BitVec.toNat (BitVec.ofInt (64 : Nat) (Int.fdiv x0 (2 : Int)) &&& BitVec.ofInt (64 : Nat) (6148914691236517205 : Int))) : Int) + IntKind.wrap IntKind.u64 (↑(BitVec.toNat (BitVec.ofInt (64 : Nat) x0 &&& BitVec.ofInt (64 : Nat) (6148914691236517205 : Int))) : Int))) &&& BitVec.ofInt (64 : Nat) (3689348814741910323 : Int))) : Int)))) &&& BitVec.ofInt (64 : Nat) (1085102592571150095 : Int))) : Int)) (256 : Int)) + Int.fdiv (IntKind.wrap IntKind.u64 (IntKind.wrap IntKind.u64 (↑(BitVec.toNat (BitVec.ofInt (64 : Nat) (IntKind.wrap IntKind.u64 (Int.fdiv (IntKind.wrap IntKind.u64 (IntKind.wrap IntKind.u64 (↑(BitVec.toNat (BitVec.ofInt (64 : Nat) (Int.fdiv (IntKind.wrap IntKind.u64 (IntKind.wrap IntKind.u64 (↑(BitVec.toNat (BitVec.ofInt (64 : Nat) (Int.fdiv x0 (2 : Int)) &&& BitVec.ofInt (64 : Nat) (6148914691236517205 : Int))) : Int) + IntKind.wrap IntKind.u64 (↑(BitVec.toNat (BitVec.ofInt (64 : Nat) x0 &&& BitVec.ofInt (64 : Nat) (6148914691236517205 : Int))) : Int))) (4 : Int)) &&& BitVec.ofInt (64 : Nat) (3689348814741910323 : Int))) : Int) + IntKind.wrap IntKind.u64 (↑(BitVec.toNat (BitVec.ofInt (64 : Nat) (IntKind.wrap IntKind.u64 (IntKind.wrap IntKind.u64 (↑(BitVec.toNat (BitVec.ofInt (64 : Nat) (Int.fdiv x0 (2 : Int)) &&& BitVec.ofInt (64 : Nat) (6148914691236517205 : Int))) : Int) + IntKind.wrap IntKind.u64 (↑(BitVec.toNat (BitVec.ofInt (64 : Nat) x0 &&& BitVec.ofInt (64 : Nat) (6148914691236517205 : Int))) : Int))) &&& BitVec.ofInt (64 : Nat) (3689348814741910323 : Int))) : Int))) (16 : Int) + IntKind.wrap IntKind.u64 (IntKind.wrap IntKind.u64 (↑(BitVec.toNat (BitVec.ofInt (64 : Nat) (Int.fdiv (IntKind.wrap IntKind.u64 (IntKind.wrap IntKind.u64 (↑(BitVec.toNat (BitVec.ofInt (64 : Nat) (Int.fdiv x0 (2 : Int)) &&& BitVec.ofInt (64 : Nat) (6148914691236517205 : Int))) : Int) + IntKind.wrap IntKind.u64 (↑(BitVec.toNat (BitVec.ofInt (64 : Nat) x0 &&& BitVec.ofInt (64 : Nat) (6148914691236517205 : Int))) : Int))) (4 : Int)) &&& BitVec.ofInt (64 : Nat) (3689348814741910323 : Int))) : Int) + IntKind.wrap IntKind.u64 (↑(BitVec.toNat (BitVec.ofInt (64 : Nat) (IntKind.wrap IntKind.u64 (IntKind.wrap IntKind.u64 (↑(BitVec.toNat (BitVec.ofInt (64 : Nat) (Int.fdiv x0 (2 : Int)) &&& BitVec.ofInt (64 : Nat) (6148914691236517205 : Int))) : Int) + IntKind.wrap IntKind.u64 (↑(BitVec.toNat (BitVec.ofInt (64 : Nat) x0 &&& BitVec.ofInt (64 : Nat) (6148914691236517205 : Int))) : Int))) &&& BitVec.ofInt (64 : Nat) (3689348814741910323 : Int))) : Int)))) &&& BitVec.ofInt (64 : Nat) (1085102592571150095 : Int))) : Int) + Int.fdiv (IntKind.wrap IntKind.u64 (↑(BitVec.toNat (BitVec.ofInt (64 : Nat) (IntKind.wrap IntKind.u64 (Int.fdiv (IntKind.wrap IntKind.u64 (IntKind.wrap IntKind.u64 (↑(BitVec.toNat (BitVec.ofInt (64 : Nat) (Int.fdiv (IntKind.wrap IntKind.u64 (IntKind.wrap IntKind.u64 (↑(BitVec.toNat (BitVec.ofInt (64 : Nat) (Int.fdiv x0 (2 : Int)) &&& BitVec.ofInt (64 : Nat) (6148914691236517205 : Int))) : Int) + IntKind.wrap IntKind.u64 (↑(BitVec.toNat (BitVec.ofInt (64 : Nat) x0 &&& BitVec.ofInt (64 : Nat) (6148914691236517205 : Int))) : Int))) (4 : Int)) &&& BitVec.ofInt (64 : Nat) (3689348814741910323 : Int))) : Int) + IntKind.wrap IntKind.u64 (↑(BitVec.toNat (BitVec.ofInt (64 : Nat) (IntKind.wrap IntKind.u64 (IntKind.wrap IntKind.u64 (↑(BitVec.toNat (BitVec.ofInt (64 : Nat) (Int.fdiv x0 (2 : Int)) &&& BitVec.ofInt (64 : Nat) (6148914691236517205 : Int))) : Int) + IntKind.wrap IntKind.u64 (↑(BitVec.toNat (BitVec.ofInt (64 : Nat) x0 &&& BitVec.ofInt (64 : Nat) (6148914691236517205 : Int))) : Int))) &&& BitVec.ofInt (64 : Nat) (3689348814741910323 : Int))) : Int))) (16 : Int) + IntKind.wrap IntKind.u64 (IntKind.wrap IntKind.u64 (↑(BitVec.toNat (BitVec.ofInt (64 : Nat) (Int.fdiv (IntKind.wrap IntKind.u64 (IntKind.wrap IntKind.u64 (↑(BitVec.toNat (BitVec.ofInt (64 : Nat) (Int.fdiv x0 (2 : Int)) &&& BitVec.ofInt (64 : Nat) (6148914691236517205 : Int))) : Int) + IntKind.wrap IntKind.u64 (↑(BitVec.toNat (BitVec.ofInt (64 : Nat) x0 &&& BitVec.ofInt (64 : Nat) (6148914691236517205 : Int))) : Int))) (4 : Int)) &&& BitVec.ofInt (64 : Nat) (3689348814741910323 : Int))) : Int) + IntKind.wrap IntKind.u64 (↑(BitVec.toNat (BitVec.ofInt (64 : Nat) (IntKind.wrap IntKind.u64 (IntKind.wrap IntKind.u64 (↑(BitVec.toNat (BitVec.ofInt (64 : Nat) (Int.fdiv x0 (2 : Int)) &&& BitVec.ofInt (64 : Nat) (6148914691236517205 : Int))) : Int) + IntKind.wrap IntKind.u64 (↑(BitVec.toNat (BitVec.ofInt (64 : Nat) x0 &&& BitVec.ofInt (64 : Nat) (6148914691236517205 : Int))) : Int))) &&& BitVec.ofInt (64 : Nat) (3689348814741910323 : Int))) : Int)))) &&& BitVec.ofInt (64 : Nat) (1085102592571150095 : Int))) : Int)) (256 : Int))) (65536 : Int)) + Int.fdiv (IntKind.wrap IntKind.u64 (IntKind.wrap IntKind.u64 (IntKind.wrap IntKind.u64 (↑(BitVec.toNat (BitVec.ofInt (64 : Nat) (IntKind.wrap IntKind.u64 (Int.fdiv (IntKind.wrap IntKind.u64 (IntKind.wrap IntKind.u64 (↑(BitVec.toNat (BitVec.ofInt (64 : Nat) (Int.fdiv (IntKind.wrap IntKind.u64 (IntKind.wrap IntKind.u64 (↑(BitVec.toNat (BitVec.ofInt (64 : Nat) (Int.fdiv x0 (2 : Int)) &&& BitVec.ofInt (64 : Nat) (6148914691236517205 : Int))) : Int) + IntKind.wrap IntKind.u64 (↑(BitVec.toNat (BitVec.ofInt (64 : Nat) x0 &&& BitVec.ofInt (64 : Nat) (6148914691236517205 : Int))) : Int))) (4 : Int)) &&& BitVec.ofInt (64 : Nat) (3689348814741910323 : Int))) : Int) + IntKind.wrap IntKind.u64 (↑(BitVec.toNat (BitVec.ofInt (64 : Nat) (IntKind.wrap IntKind.u64 (IntKind.wrap IntKind.u64 (↑(BitVec.toNat (BitVec.ofInt (64 : Nat) (Int.fdiv x0 (2 : Int)) &&& BitVec.ofInt (64 : Nat) (6148914691236517205 : Int))) : Int) + IntKind.wrap IntKind.u64 (↑(BitVec.toNat (BitVec.ofInt (64 : Nat) x0 &&& BitVec.ofInt (64 : Nat) (6148914691236517205 : Int))) : Int))) &&& BitVec.ofInt (64 : Nat) (3689348814741910323 : Int))) : Int))) (16 : Int) + IntKind.wrap IntKind.u64 (IntKind.wrap IntKind.u64 (↑(BitVec.toNat (BitVec.ofInt (64 : Nat) (Int.fdiv (IntKind.wrap IntKind.u64 (IntKind.wrap IntKind.u64 (↑(BitVec.toNat (BitVec.ofInt (64 : Nat) (Int.fdiv x0 (2 : Int)) &&& BitVec.ofInt (64 : Nat) (6148914691236517205 : Int))) : Int) + IntKind.wrap IntKind.u64 (↑(BitVec.toNat (BitVec.ofInt (64 : Nat) x0 &&& BitVec.ofInt (64 : Nat) (6148914691236517205 : Int))) : Int))) (4 : Int)) &&& BitVec.ofInt (64 : Nat) (3689348814741910323 : Int))) : Int) + IntKind.wrap IntKind.u64 (↑(BitVec.toNat (BitVec.ofInt (64 : Nat) (IntKind.wrap IntKind.u64 (IntKind.wrap IntKind.u64 (↑(BitVec.toNat (BitVec.ofInt (64 : Nat) (Int.fdiv x0 (2 : Int)) &&& BitVec.ofInt (64 : Nat) (6148914691236517205 : Int))) : Int) + IntKind.wrap IntKind.u64 (↑(BitVec.toNat (BitVec.ofInt (64 : Nat) x0 &&& BitVec.ofInt (64 : Nat) (6148914691236517205 : Int))) : Int))) &&& BitVec.ofInt (64 : Nat) (3689348814741910323 : Int))) : Int)))) &&& BitVec.ofInt (64 : Nat) (1085102592571150095 : Int))) : Int) + Int.fdiv (IntKind.wrap IntKind.u64 (↑(BitVec.toNat (BitVec.ofInt (64 : Nat) (IntKind.wrap IntKind.u64 (Int.fdiv (IntKind.wrap IntKind.u64 (IntKind.wrap IntKind.u64 (↑(BitVec.toNat (BitVec.ofInt (64 : Nat) (Int.fdiv (IntKind.wrap IntKind.u64 (IntKind.wrap IntKind.u64 (↑(BitVec.toNat (BitVec.ofInt (64 : Nat) (Int.fdiv x0 (2 : Int)) &&& BitVec.ofInt (64 : Nat) (6148914691236517205 : Int))) : Int) + IntKind.wrap IntKind.u64 (↑(BitVec.toNat (BitVec.ofInt (64 : Nat) x0 &&& BitVec.ofInt (64 : Nat) (6148914691236517205 : Int))) : Int))) (4 : Int)) &&& BitVec.ofInt (64 : Nat) (3689348814741910323 : Int))) : Int) + IntKind.wrap IntKind.u64 (↑(BitVec.toNat (BitVec.ofInt (64 : Nat) (IntKind.wrap IntKind.u64 (IntKind.wrap IntKind.u64 (↑(BitVec.toNat (BitVec.ofInt (64 : Nat) (Int.fdiv x0 (2 : Int)) &&& BitVec.ofInt (64 : Nat) (6148914691236517205 : Int))) : Int) + IntKind.wrap IntKind.u64 (↑(BitVec.toNat (BitVec.ofInt (64 : Nat) x0 &&& BitVec.ofInt (64 : Nat) (6148914691236517205 : Int))) : Int))) &&& BitVec.ofInt (64 : Nat) (3689348814741910323 : Int))) : Int))) (16 : Int) + IntKind.wrap IntKind.u64 (IntKind.wrap IntKind.u64 (↑(BitVec.toNat (BitVec.ofInt (64 : Nat) (Int.fdiv (IntKind.wrap IntKind.u64 (IntKind.wrap IntKind.u64 (↑(BitVec.toNat (BitVec.ofInt (64 : Nat) (Int.fdiv x0 (2 : Int)) &&& BitVec.ofInt (64 : Nat) (6148914691236517205 : Int))) : Int) + IntKind.wrap IntKind.u64 (↑(BitVec.toNat (BitVec.ofInt (64 : Nat) x0 &&& BitVec.ofInt (64 : Nat) (6148914691236517205 : Int))) : Int))) (4 : Int)) &&& BitVec.ofInt (64 : Nat) (3689348814741910323 : Int))) : Int) + IntKind.wrap IntKind.u64 (↑(BitVec.toNat (BitVec.ofInt (64 : Nat) (IntKind.wrap IntKind.u64 (IntKind.wrap IntKind.u64 (↑(BitVec.toNat (BitVec.ofInt (64 : Nat) (Int.fdiv x0 (2 : Int)) &&& BitVec.ofInt (64 : Nat) (6148914691236517205 : Int))) : Int) + IntKind.wrap IntKind.u64 (↑(BitVec.toNat (BitVec.ofInt (64 : Nat) x0 &&& BitVec.ofInt (64 : Nat) (6148914691236517205 : Int))) : Int))) &&& BitVec.ofInt (64 : Nat) (3689348814741910323 : Int))) : Int)))) &&& BitVec.ofInt (64 : Nat) (1085102592571150095 : Int))) : Int)) (256 : Int)) + Int.fdiv (IntKind.wrap IntKind.u64 (IntKind.wrap IntKind.u64 (↑(BitVec.toNat (BitVec.ofInt (64 : Nat) (IntKind.wrap IntKind.u64 (Int.fdiv (IntKind.wrap IntKind.u64 (IntKind.wrap IntKind.u64 (↑(BitVec.toNat (BitVec.ofInt (64 : Nat) (Int.fdiv (IntKind.wrap IntKind.u64 (IntKind.wrap IntKind.u64 (↑(BitVec.toNat (BitVec.ofInt (64 : Nat) (Int.fdiv x0 (2 : Int)) &&& BitVec.ofInt (64 : Nat) (6148914691236517205 : Int))) : Int) + IntKind.wrap IntKind.u64 (↑(BitVec.toNat (BitVec.ofInt (64 : Nat) x0 &&& BitVec.ofInt (64 : Nat) (6148914691236517205 : Int))) : Int))) (4 : Int)) &&& BitVec.ofInt (64 : Nat) (3689348814741910323 : Int))) : Int) + IntKind.wrap IntKind.u64 (↑(BitVec.toNat (BitVec.ofInt (64 : Nat) (IntKind.wrap IntKind.u64 (IntKind.wrap IntKind.u64 (↑(BitVec.toNat (BitVec.ofInt (64 : Nat) (Int.fdiv x0 (2 : Int)) &&& BitVec.ofInt (64 : Nat) (6148914691236517205 : Int))) : Int) + IntKind.wrap IntKind.u64 (↑(BitVec.toNat (BitVec.ofInt (64 : Nat) x0 &&& BitVec.ofInt (64 : Nat) (6148914691236517205 : Int))) : Int))) &&& BitVec.ofInt (64 : Nat) (3689348814741910323 : Int))) : Int))) (16 : Int) + IntKind.wrap IntKind.u64 (IntKind.wrap IntKind.u64 (↑(BitVec.toNat (BitVec.ofInt (64 : Nat) (Int.fdiv (IntKind.wrap IntKind.u64 (IntKind.wrap IntKind.u64 (↑(BitVec.toNat (BitVec.ofInt (64 : Nat) (Int.fdiv x0 (2 : Int)) &&& BitVec.ofInt (64 : Nat) (6148914691236517205 : Int))) : Int) + IntKind.wrap IntKind.u64 (↑(BitVec.toNat (BitVec.ofInt (64 : Nat) x0 &&& BitVec.ofInt (64 : Nat) (6148914691236517205 : Int))) : Int))) (4 : Int)) &&& BitVec.ofInt (64 : Nat) (3689348814741910323 : Int))) : Int) + IntKind.wrap IntKind.u64 (↑(BitVec.toNat (BitVec.ofInt (64 : Nat) (IntKind.wrap IntKind.u64 (IntKind.wrap IntKind.u64 (↑(BitVec.toNat (BitVec.ofInt (64 : Nat) (Int.fdiv x0 (2 : Int)) &&& BitVec.ofInt (64 : Nat) (6148914691236517205 : Int))) : Int) + IntKind.wrap IntKind.u64 (↑(BitVec.toNat (BitVec.ofInt (64 : Nat) x0 &&& BitVec.ofInt (64 : Nat) (6148914691236517205 : Int))) : Int))) &&& BitVec.ofInt (64 : Nat) (3689348814741910323 : Int))) : Int)))) &&& BitVec.ofInt (64 : Nat) (1085102592571150095 : Int))) : Int) + Int.fdiv (IntKind.wrap IntKind.u64 (↑(BitVec.toNat (BitVec.ofInt (64 : Nat) (IntKind.wrap IntKind.u64 (Int.fdiv (IntKind.wrap IntKind.u64 (IntKind.wrap IntKind.u64 (↑(BitVec.toNat (BitVec.ofInt (64 : Nat) (Int.fdiv (IntKind.wrap IntKind.u64 (IntKind.wrap IntKind.u64 (↑(BitVec.toNat (BitVec.ofInt (64 : Nat) (Int.fdiv x0 (2 : Int)) &&& BitVec.ofInt (64 : Nat) (6148914691236517205 : Int))) : Int) + IntKind.wrap IntKind.u64 (↑(BitVec.toNat (BitVec.ofInt (64 : Nat) x0 &&& BitVec.ofInt (64 : Nat) (6148914691236517205 : Int))) : Int))) (4 : Int)) &&& BitVec.ofInt (64 : Nat) (3689348814741910323 : Int))) : Int) + IntKind.wrap IntKind.u64 (↑(BitVec.toNat (BitVec.ofInt (64 : Nat) (IntKind.wrap IntKind.u64 (IntKind.wrap IntKind.u64 (↑(BitVec.toNat (BitVec.ofInt (64 : Nat) (Int.fdiv x0 (2 : Int)) &&& BitVec.ofInt (64 : Nat) (6148914691236517205 : Int))) : Int) + IntKind.wrap IntKind.u64 (↑(BitVec.toNat (BitVec.ofInt (64 : Nat) x0 &&& BitVec.ofInt (64 : Nat) (6148914691236517205 : Int))) : Int))) &&& BitVec.ofInt (64 : Nat) (3689348814741910323 : Int))) : Int))) (16 : Int) + IntKind.wrap IntKind.u64 (IntKind.wrap IntKind.u64 (↑(BitVec.toNat (BitVec.ofInt (64 : Nat) (Int.fdiv (IntKind.wrap IntKind.u64 (IntKind.wrap IntKind.u64 (↑(BitVec.toNat (BitVec.ofInt (64 : Nat) (Int.fdiv x0 (2 : Int)) &&& BitVec.ofInt (64 : Nat) (6148914691236517205 : Int))) : Int) + IntKind.wrap IntKind.u64 (↑(BitVec.toNat (BitVec.ofInt (64 : Nat) x0 &&& BitVec.ofInt (64 : Nat) (6148914691236517205 : Int))) : Int))) (4 : Int)) &&& BitVec.ofInt (64 : Nat) (3689348814741910323 : Int))) : Int) + IntKind.wrap IntKind.u64 (↑(BitVec.toNat (BitVec.ofInt (64 : Nat) (IntKind.wrap IntKind.u64 (IntKind.wrap IntKind.u64 (↑(BitVec.toNat (BitVec.ofInt (64 : Nat) (Int.fdiv x0 (2 : Int)) &&& BitVec.ofInt (64 : Nat) (6148914691236517205 : Int))) : Int) + IntKind.wrap IntKind.u64 (↑(BitVec.toNat (BitVec.ofInt (64 : Nat) x0 &&& BitVec.ofInt (64 : Nat) (6148914691236517205 : Int))) : Int))) &&& BitVec.ofInt (64 : Nat) (3689348814741910323 : Int))) : Int)))) &&& BitVec.ofInt (64 : Nat) (1085102592571150095 : Int))) : Int)) (256 : Int))) (65536 : Int))) (4294967296 : Int)))) &&& BitVec.ofInt (64 : Nat) (127 : Int))) : Int))
theorem f35_run (k : Nat) (x0 : Int) : cf11 k R35 35 (A35 (x0)) [] 0 (endR planR (.any) [] 0 r35) = f35 k x0 := by kernel_rfl
def g35 (k : Nat) : CallS := entT d35 (fun p => f35 k p) (elAll _) (fun _ => o35) (fun _ => u35) (fun _ => n35)
theorem g35_ok (k : Nat) : CallSOk Tryd.prog 35 (g35 k) := entry_ok (Hp := fun _ => []) (oR := fun _ => o35) (uR := fun _ => u35) (nR := fun _ => n35) (cf11_ok k) d35_ok r35_ok (hel := elAll_ok) (fun p => f35_run k p)
def Dl12 (k : Nat) : Delta := dCons 35 (callAt plan [.any] (g35 k)) (Dl11 k)
def Lm12 (k : Nat) : FuncId → Nat → Option LamF := Lm11 k
theorem Dl12_ok (k : Nat) : DeltaOk Tryd.prog (Dl12 k) := dCons_ok (Dl11_ok k) (g35_ok k)
theorem Lm12_ok (k : Nat) : LamsOk Tryd.prog (Lm12 k) := Lm11_ok k
abbrev cf12 (k : Nat) : CallF := evF Tryd.prog (Dl12 k) (Lm12 k) 200 12
theorem cf12_ok (k : Nat) : CfOk Tryd.prog (cf12 k) := evF_ok noNum mixed (Dl12_ok k) (Lm12_ok k) 12
abbrev P29 := Int
def A29 (p : P29) : List AV := [.int .u64 p]
def d29 (a : List AV) (H : Heap) : Option P29 := match a, H with
  | [.int .u64 a0], [] => some (a0)
  | _, _ => none
theorem d29_ok (a : List AV) (H : Heap) (p : P29) (h : d29 a H = some p) : a = A29 p ∧ H = [] := by
  unfold d29 at h
  split at h
  · skip
    cases h; exact ⟨rfl, rfl⟩
  · cases h
abbrev R29 := Int
def o29 (r : R29) : AEnd := .ret (.int .i64 r)
def u29 (r : R29) : Heap := []
def n29 (_ : R29) : Nat := 0
def r29 (o : AEnd) (u : Heap) (n : Nat) : Option R29 := match o, u, n with
  | .ret (.int .i64 a0), [], 0 => some (a0)
  | _, _, _ => none
theorem r29_ok (p : P29) (o : AEnd) (u : Heap) (n : Nat) (r : R29) (h : r29 o u n = some r) : o = o29 r ∧ u = u29 r ∧ n = n29 r := by
  unfold r29 at h
  split at h
  · skip
    cases h; exact ⟨rfl, rfl, rfl⟩
  · cases h
def f29 (k : Nat) (x0 : Int) : Option R29 :=
  bindO (f35 k x0) fun r3000 =>
   some r3000
theorem f29_run (k : Nat) (x0 : Int) : cf12 k R29 29 (A29 (x0)) [] 0 (endR planR (.any) [] 0 r29) = f29 k x0 := by kernel_rfl
def g29 (k : Nat) : CallS := entT d29 (fun p => f29 k p) (elAll _) (fun _ => o29) (fun _ => u29) (fun _ => n29)
theorem g29_ok (k : Nat) : CallSOk Tryd.prog 29 (g29 k) := entry_ok (Hp := fun _ => []) (oR := fun _ => o29) (uR := fun _ => u29) (nR := fun _ => n29) (cf12_ok k) d29_ok r29_ok (hel := elAll_ok) (fun p => f29_run k p)
def Dl13 (k : Nat) : Delta := dCons 29 (callAt plan [.any] (g29 k)) (Dl12 k)
def Lm13 (k : Nat) : FuncId → Nat → Option LamF := Lm12 k
theorem Dl13_ok (k : Nat) : DeltaOk Tryd.prog (Dl13 k) := dCons_ok (Dl12_ok k) (g29_ok k)
theorem Lm13_ok (k : Nat) : LamsOk Tryd.prog (Lm13 k) := Lm12_ok k
abbrev cf13 (k : Nat) : CallF := evF Tryd.prog (Dl13 k) (Lm13 k) 200 12
theorem cf13_ok (k : Nat) : CfOk Tryd.prog (cf13 k) := evF_ok noNum mixed (Dl13_ok k) (Lm13_ok k) 12
abbrev P15 := Int
def A15 (p : P15) : List AV := [.int .i64 p]
def d15 (a : List AV) (H : Heap) : Option P15 := match a, H with
  | [.int .i64 a0], [] => some (a0)
  | _, _ => none
theorem d15_ok (a : List AV) (H : Heap) (p : P15) (h : d15 a H = some p) : a = A15 p ∧ H = [] := by
  unfold d15 at h
  split at h
  · skip
    cases h; exact ⟨rfl, rfl⟩
  · cases h
abbrev R15 := Int
def o15 (r : R15) : AEnd := .ret (.int .i64 r)
def u15 (r : R15) : Heap := []
def n15 (_ : R15) : Nat := 0
def r15 (o : AEnd) (u : Heap) (n : Nat) : Option R15 := match o, u, n with
  | .ret (.int .i64 a0), [], 0 => some (a0)
  | _, _, _ => none
theorem r15_ok (p : P15) (o : AEnd) (u : Heap) (n : Nat) (r : R15) (h : r15 o u n = some r) : o = o15 r ∧ u = u15 r ∧ n = n15 r := by
  unfold r15 at h
  split at h
  · skip
    cases h; exact ⟨rfl, rfl, rfl⟩
  · cases h
def f15 (k : Nat) (x0 : Int) : Option R15 :=
  bindO (f26 k x0) fun r3000 =>
   bindO (f29 k (IntKind.wrap IntKind.u64 r3000)) fun r2999 =>
    some r2999
theorem f15_run (k : Nat) (x0 : Int) : cf13 k R15 15 (A15 (x0)) [] 0 (endR planR (.any) [] 0 r15) = f15 k x0 := by kernel_rfl
def g15 (k : Nat) : CallS := entT d15 (fun p => f15 k p) (elAll _) (fun _ => o15) (fun _ => u15) (fun _ => n15)
theorem g15_ok (k : Nat) : CallSOk Tryd.prog 15 (g15 k) := entry_ok (Hp := fun _ => []) (oR := fun _ => o15) (uR := fun _ => u15) (nR := fun _ => n15) (cf13_ok k) d15_ok r15_ok (hel := elAll_ok) (fun p => f15_run k p)
def Dl14 (k : Nat) : Delta := dCons 15 (callAt plan [.any] (g15 k)) (Dl13 k)
def Lm14 (k : Nat) : FuncId → Nat → Option LamF := Lm13 k
theorem Dl14_ok (k : Nat) : DeltaOk Tryd.prog (Dl14 k) := dCons_ok (Dl13_ok k) (g15_ok k)
theorem Lm14_ok (k : Nat) : LamsOk Tryd.prog (Lm14 k) := Lm13_ok k
abbrev cf14 (k : Nat) : CallF := evF Tryd.prog (Dl14 k) (Lm14 k) 200 12
theorem cf14_ok (k : Nat) : CfOk Tryd.prog (cf14 k) := evF_ok noNum mixed (Dl14_ok k) (Lm14_ok k) 12
abbrev P20 := Int × Int
def A20 (p : P20) : List AV := [.int .i64 p.1, .int .i64 p.2]
def d20 (a : List AV) (H : Heap) : Option P20 := match a, H with
  | [.int .i64 a0, .int .i64 a1], [] => some (a0, a1)
  | _, _ => none
theorem d20_ok (a : List AV) (H : Heap) (p : P20) (h : d20 a H = some p) : a = A20 p ∧ H = [] := by
  unfold d20 at h
  split at h
  · skip
    cases h; exact ⟨rfl, rfl⟩
  · cases h
abbrev R20 := Bool
def o20 (r : R20) : AEnd := .ret (.bool r)
def u20 (r : R20) : Heap := []
def n20 (_ : R20) : Nat := 0
def r20 (o : AEnd) (u : Heap) (n : Nat) : Option R20 := match o, u, n with
  | .ret (.bool a0), [], 0 => some (a0)
  | _, _, _ => none
theorem r20_ok (p : P20) (o : AEnd) (u : Heap) (n : Nat) (r : R20) (h : r20 o u n = some r) : o = o20 r ∧ u = u20 r ∧ n = n20 r := by
  unfold r20 at h
  split at h
  · skip
    cases h; exact ⟨rfl, rfl, rfl⟩
  · cases h
def f20 (k : Nat) (x0 : Int) (x1 : Int) : Option R20 :=
  bindO (f25 k x1) fun r3000 =>
   br (Prod.snd r3000)
    (bindO (f26 k x0) fun r2999 =>
     br (!decide (x1 < (0 : Int)))
      (bindO (f15 k (IntKind.wrap IntKind.i64 (↑(BitVec.toNat (BitVec.ofInt (64 : Nat) r2999 &&& BitVec.ofInt (64 : Nat) (IntKind.wrap IntKind.i64 (IntKind.wrap IntKind.i64 ((1 : Int) * (2 : Int) ^ Min.min (Int.toNat x1) (64 : Nat)) - (1 : Int))))) : Int))) fun r2998 =>
       some (decide (r2998 ≥ Prod.fst r3000)))
      (none))
    (some false)
theorem f20_run (k : Nat) (x0 : Int) (x1 : Int) : cf14 k R20 20 (A20 (x0, x1)) [] 0 (endR planR (.any) [] 0 r20) = f20 k x0 x1 := by kernel_rfl
def g20 (k : Nat) : CallS := entT d20 (fun p => f20 k p.1 p.2) (elAll _) (fun _ => o20) (fun _ => u20) (fun _ => n20)
theorem g20_ok (k : Nat) : CallSOk Tryd.prog 20 (g20 k) := entry_ok (Hp := fun _ => []) (oR := fun _ => o20) (uR := fun _ => u20) (nR := fun _ => n20) (cf14_ok k) d20_ok r20_ok (hel := elAll_ok) (fun p => f20_run k p.1 p.2)
def Dl15 (k : Nat) : Delta := dCons 20 (callAt plan [.any, .any] (g20 k)) (Dl14 k)
def Lm15 (k : Nat) : FuncId → Nat → Option LamF := Lm14 k
theorem Dl15_ok (k : Nat) : DeltaOk Tryd.prog (Dl15 k) := dCons_ok (Dl14_ok k) (g20_ok k)
theorem Lm15_ok (k : Nat) : LamsOk Tryd.prog (Lm15 k) := Lm14_ok k
abbrev cf15 (k : Nat) : CallF := evF Tryd.prog (Dl15 k) (Lm15 k) 200 12
theorem cf15_ok (k : Nat) : CfOk Tryd.prog (cf15 k) := evF_ok noNum mixed (Dl15_ok k) (Lm15_ok k) 12
abbrev R32 := List Int
def o32 (_ : R32) : AEnd := .ret (.slf 0)
def u32 (r : R32) : Heap := [(0, some (.row 3 r))]
def n32 (_ : R32) : Nat := 1
def r32 (o : AEnd) (u : Heap) (n : Nat) : Option R32 := match o, u, n with
  | .ret (.slf 0), [(0, ba0)], 1 => (match (rowD 3 ba0 : Option (List Int)) with | some a0 => some a0 | none => none)
  | _, _, _ => none
theorem r32_ok (o : AEnd) (u : Heap) (n : Nat) (r : R32) (h : r32 o u n = some r) : o = o32 r ∧ u = u32 r ∧ n = n32 r := by
  unfold r32 at h
  split at h
  · skip
    split at h
    · rename_i q
      have q := rowD_ok q
      subst q
      cases h; exact ⟨rfl, rfl, rfl⟩
    · cases h
  · cases h
def f32 (k : Nat) (x0 : List Int) : Option R32 :=
  br (true && decide (((0 : Nat) + List.length x0) * (8 : Nat) ≤ (140737488355328 : Nat)))
   (some ([] ++ x0))
   (none)
theorem f32_run (k : Nat) (x0 : List Int) : cf15 k R32 32 [.dsn 3 x0] [] 0 (endR planR (.fresh 3) [] 0 r32) = f32 k x0 := by kernel_rfl
theorem f32_nil (k : Nat) : cf15 k R32 32 [.nils] [] 0 (endR planR (.fresh 3) [] 0 r32) = f32 k [] := by kernel_rfl
def g32 (k : Nat) : CallS := entT (rowA 3) (fun x => f32 k x) (elAll _) (fun _ => o32) (fun _ => u32) (fun _ => n32)
theorem g32_ok (k : Nat) : CallSOk Tryd.prog 32 (g32 k) := entry_nil (cf15_ok k) (oR := o32) (uR := u32) (nR := n32) r32_ok (hel := elAll_ok) (f32_nil k) (f32_run k)
def Dl16 (k : Nat) : Delta := dCons 32 (callAt plan [.rd 3] (g32 k)) (Dl15 k)
def Lm16 (k : Nat) : FuncId → Nat → Option LamF := Lm15 k
theorem Dl16_ok (k : Nat) : DeltaOk Tryd.prog (Dl16 k) := dCons_ok (Dl15_ok k) (g32_ok k)
theorem Lm16_ok (k : Nat) : LamsOk Tryd.prog (Lm16 k) := Lm15_ok k
abbrev cf16 (k : Nat) : CallF := evF Tryd.prog (Dl16 k) (Lm16 k) 200 12
theorem cf16_ok (k : Nat) : CfOk Tryd.prog (cf16 k) := evF_ok noNum mixed (Dl16_ok k) (Lm16_ok k) 12
abbrev P22 := Int × List Int
def A22 (p : P22) : List AV := [.int .i64 p.1, .dsl 3 p.2]
def d22 (a : List AV) (H : Heap) : Option P22 := match a, H with
  | [.int .i64 a0, ba1], [] => (match (dslD 3 ba1 : Option (List Int)) with | some a1 => some (a0, a1) | none => none)
  | _, _ => none
theorem d22_ok (a : List AV) (H : Heap) (p : P22) (h : d22 a H = some p) : a = A22 p ∧ H = [] := by
  unfold d22 at h
  split at h
  · skip
    split at h
    · rename_i q
      have q := dslD_ok q
      subst q
      cases h; exact ⟨rfl, rfl⟩
    · cases h
  · cases h
abbrev R22 := Int
def o22 (r : R22) : AEnd := .ret (.int .i64 r)
def u22 (r : R22) : Heap := []
def n22 (_ : R22) : Nat := 0
def r22 (o : AEnd) (u : Heap) (n : Nat) : Option R22 := match o, u, n with
  | .ret (.int .i64 a0), [], 0 => some (a0)
  | _, _, _ => none
theorem r22_ok (p : P22) (o : AEnd) (u : Heap) (n : Nat) (r : R22) (h : r22 o u n = some r) : o = o22 r ∧ u = u22 r ∧ n = n22 r := by
  unfold r22 at h
  split at h
  · skip
    cases h; exact ⟨rfl, rfl, rfl⟩
  · cases h
def f22 (k : Nat) (x0 : Int) (x1 : List Int) : Option R22 :=
  bindO (f25 k x0) fun r3000 =>
   br (!Prod.snd r3000)
    (some (0 : Int))
    (br (decide ((↑(List.length x1) : Int) < Prod.fst r3000))
     (some (0 : Int))
     (bindO (f32 k x1) fun r2997 =>
      bindO (fSort r2997) fun r2996 =>
       br (decide ((0 : Int) ≤ IntKind.wrap IntKind.i64 ((↑(List.length r2996) : Int) - Prod.fst r3000) ∧ IntKind.wrap IntKind.i64 ((↑(List.length r2996) : Int) - Prod.fst r3000) < (↑(List.length r2996) : Int)))
        (br (decide (Int.toNat (IntKind.wrap IntKind.i64 ((↑(List.length r2996) : Int) - Prod.fst r3000)) < List.length r2996))
         (some (Go.Eng.max2 (List.getD r2996 (Int.toNat (IntKind.wrap IntKind.i64 ((↑(List.length r2996) : Int) - Prod.fst r3000))) (0 : Int)) (0 : Int)))
         (none))
        (none)))
theorem f22_run (k : Nat) (x0 : Int) (x1 : List Int) : cf16 k R22 22 (A22 (x0, x1)) [] 0 (endR planR (.any) [] 0 r22) = f22 k x0 x1 := by kernel_rfl
def g22 (k : Nat) : CallS := entT d22 (fun p => f22 k p.1 p.2) (elAll _) (fun _ => o22) (fun _ => u22) (fun _ => n22)
theorem g22_ok (k : Nat) : CallSOk Tryd.prog 22 (g22 k) := entry_ok (Hp := fun _ => []) (oR := fun _ => o22) (uR := fun _ => u22) (nR := fun _ => n22) (cf16_ok k) d22_ok r22_ok (hel := elAll_ok) (fun p => f22_run k p.1 p.2)
def Dl17 (k : Nat) : Delta := dCons 22 (callAt plan [.any, .rd 3] (g22 k)) (Dl16 k)
def Lm17 (k : Nat) : FuncId → Nat → Option LamF := Lm16 k
theorem Dl17_ok (k : Nat) : DeltaOk Tryd.prog (Dl17 k) := dCons_ok (Dl16_ok k) (g22_ok k)
theorem Lm17_ok (k : Nat) : LamsOk Tryd.prog (Lm17 k) := Lm16_ok k
abbrev cf17 (k : Nat) : CallF := evF Tryd.prog (Dl17 k) (Lm17 k) 200 12
theorem cf17_ok (k : Nat) : CfOk Tryd.prog (cf17 k) := evF_ok noNum mixed (Dl17_ok k) (Lm17_ok k) 12
abbrev P13 := Int × Int
def A13 (p : P13) : List AV := [.int .i64 p.1, .int .i64 p.2]
def d13 (a : List AV) (H : Heap) : Option P13 := match a, H with
  | [.int .i64 a0, .int .i64 a1], [] => some (a0, a1)
  | _, _ => none
theorem d13_ok (a : List AV) (H : Heap) (p : P13) (h : d13 a H = some p) : a = A13 p ∧ H = [] := by
  unfold d13 at h
  split at h
  · skip
    cases h; exact ⟨rfl, rfl⟩
  · cases h
abbrev R13 := Bool
def o13 (r : R13) : AEnd := .ret (.bool r)
def u13 (r : R13) : Heap := []
def n13 (_ : R13) : Nat := 0
def r13 (o : AEnd) (u : Heap) (n : Nat) : Option R13 := match o, u, n with
  | .ret (.bool a0), [], 0 => some (a0)
  | _, _, _ => none
theorem r13_ok (p : P13) (o : AEnd) (u : Heap) (n : Nat) (r : R13) (h : r13 o u n = some r) : o = o13 r ∧ u = u13 r ∧ n = n13 r := by
  unfold r13 at h
  split at h
  · skip
    cases h; exact ⟨rfl, rfl, rfl⟩
  · cases h
def f13 (k : Nat) (x0 : Int) (x1 : Int) : Option R13 :=
  bindO (f27 k x1) fun r3000 =>
   br r3000
    (bindO (f26 k x0) fun r2999 =>
     br (!decide (x1 < (0 : Int)))
      (some (IntKind.wrap IntKind.i64 (↑(BitVec.toNat (BitVec.ofInt (64 : Nat) (Int.fdiv r2999 ((2 : Int) ^ Min.min (Int.toNat x1) (64 : Nat))) &&& BitVec.ofInt (64 : Nat) (1 : Int))) : Int) == (1 : Int)))
      (none))
    (some false)
theorem f13_run (k : Nat) (x0 : Int) (x1 : Int) : cf17 k R13 13 (A13 (x0, x1)) [] 0 (endR planR (.any) [] 0 r13) = f13 k x0 x1 := by kernel_rfl
def g13 (k : Nat) : CallS := entT d13 (fun p => f13 k p.1 p.2) (elAll _) (fun _ => o13) (fun _ => u13) (fun _ => n13)
theorem g13_ok (k : Nat) : CallSOk Tryd.prog 13 (g13 k) := entry_ok (Hp := fun _ => []) (oR := fun _ => o13) (uR := fun _ => u13) (nR := fun _ => n13) (cf17_ok k) d13_ok r13_ok (hel := elAll_ok) (fun p => f13_run k p.1 p.2)
def Dl18 (k : Nat) : Delta := dCons 13 (callAt plan [.any, .any] (g13 k)) (Dl17 k)
def Lm18 (k : Nat) : FuncId → Nat → Option LamF := Lm17 k
theorem Dl18_ok (k : Nat) : DeltaOk Tryd.prog (Dl18 k) := dCons_ok (Dl17_ok k) (g13_ok k)
theorem Lm18_ok (k : Nat) : LamsOk Tryd.prog (Lm18 k) := Lm17_ok k
abbrev cf18 (k : Nat) : CallF := evF Tryd.prog (Dl18 k) (Lm18 k) 200 12
theorem cf18_ok (k : Nat) : CfOk Tryd.prog (cf18 k) := evF_ok noNum mixed (Dl18_ok k) (Lm18_ok k) 12
abbrev P24 := Unit
def A24 (p : P24) : List AV := []
def d24 (a : List AV) (H : Heap) : Option P24 := match a, H with
  | [], [] => some ()
  | _, _ => none
theorem d24_ok (a : List AV) (H : Heap) (p : P24) (h : d24 a H = some p) : a = A24 p ∧ H = [] := by
  unfold d24 at h
  split at h
  · skip
    cases h; exact ⟨rfl, rfl⟩
  · cases h
abbrev R24 := Bool
def o24 (r : R24) : AEnd := .ret (.bool r)
def u24 (r : R24) : Heap := []
def n24 (_ : R24) : Nat := 0
def r24 (o : AEnd) (u : Heap) (n : Nat) : Option R24 := match o, u, n with
  | .ret (.bool a0), [], 0 => some (a0)
  | _, _, _ => none
theorem r24_ok (p : P24) (o : AEnd) (u : Heap) (n : Nat) (r : R24) (h : r24 o u n = some r) : o = o24 r ∧ u = u24 r ∧ n = n24 r := by
  unfold r24 at h
  split at h
  · skip
    cases h; exact ⟨rfl, rfl, rfl⟩
  · cases h
def f24 (k : Nat) : Option R24 := some true
theorem f24_run : cf18 60 R24 24 (A24 ()) [] 0 (endR planR (.any) [] 0 r24) = some true := by kernel_rfl
def g24 (k : Nat) : CallS := entT d24 (fun p => f24 k ) (elAll _) (fun _ => o24) (fun _ => u24) (fun _ => n24)
theorem g24_ok (k : Nat) : CallSOk Tryd.prog 24 (g24 k) := entry_le (Hp := fun _ => []) (plan := planR) (kd := .any) (dead := []) (decR := fun _ => r24) (oR := fun _ => o24) (uR := fun _ => u24) (nR := fun _ => n24) d24_ok r24_ok (hel := elAll_ok) (fun p z h => ⟨cf18 60, cf18_ok 60, f24_run.trans h⟩)
def Dl19 (k : Nat) : Delta := dCons 24 (callAt plan [] (g24 k)) (Dl18 k)
def Lm19 (k : Nat) : FuncId → Nat → Option LamF := Lm18 k
theorem Dl19_ok (k : Nat) : DeltaOk Tryd.prog (Dl19 k) := dCons_ok (Dl18_ok k) (g24_ok k)
theorem Lm19_ok (k : Nat) : LamsOk Tryd.prog (Lm19 k) := Lm18_ok k
abbrev cf19 (k : Nat) : CallF := evF Tryd.prog (Dl19 k) (Lm19 k) 200 12
theorem cf19_ok (k : Nat) : CfOk Tryd.prog (cf19 k) := evF_ok noNum mixed (Dl19_ok k) (Lm19_ok k) 12
abbrev P8 := List Int
def A8 (p : P8) : List AV := [.dsl 3 p]
def d8 (a : List AV) (H : Heap) : Option P8 := match a, H with
  | [ba0], [] => (match (dslD 3 ba0 : Option (List Int)) with | some a0 => some (a0) | none => none)
  | _, _ => none
theorem d8_ok (a : List AV) (H : Heap) (p : P8) (h : d8 a H = some p) : a = A8 p ∧ H = [] := by
  unfold d8 at h
  split at h
  · skip
    split at h
    · rename_i q
      have q := dslD_ok q
      subst q
      cases h; exact ⟨rfl, rfl⟩
    · cases h
  · cases h
abbrev R8 := List Int
def o8 (r : R8) : AEnd := .ret (.dsl 3 r)
def u8 (r : R8) : Heap := []
def n8 (_ : R8) : Nat := 0
def r8 (o : AEnd) (u : Heap) (n : Nat) : Option R8 := match o, u, n with
  | .ret ba0, [], 0 => (match (dslD 3 ba0 : Option (List Int)) with | some a0 => some (a0) | none => none)
  | _, _, _ => none
theorem r8_ok (p : P8) (o : AEnd) (u : Heap) (n : Nat) (r : R8) (h : r8 o u n = some r) : o = o8 r ∧ u = u8 r ∧ n = n8 r := by
  unfold r8 at h
  split at h
  · skip
    split at h
    · rename_i q
      have q := dslD_ok q
      subst q
      cases h; exact ⟨rfl, rfl, rfl⟩
    · cases h
  · cases h
def f8 (k : Nat) (x0 : List Int) : Option R8 :=
  br (true && decide (List.length x0 * (8 : Nat) ≤ (140737488355328 : Nat)))
   (some x0)
   (none)
theorem f8_run (k : Nat) (x0 : List Int) : cf19 k R8 8 (A8 (x0)) [] 0 (endR planR (.ro 3) [] 0 r8) = f8 k x0 := by kernel_rfl
def g8 (k : Nat) : CallS := entT d8 (fun p => f8 k p) (elAll _) (fun _ => o8) (fun _ => u8) (fun _ => n8)
theorem g8_ok (k : Nat) : CallSOk Tryd.prog 8 (g8 k) := entry_ok (Hp := fun _ => []) (oR := fun _ => o8) (uR := fun _ => u8) (nR := fun _ => n8) (cf19_ok k) d8_ok r8_ok (hel := elAll_ok) (fun p => f8_run k p)
def Dl20 (k : Nat) : Delta := dCons 8 (callAt plan [.rd 3] (g8 k)) (Dl19 k)
def Lm20 (k : Nat) : FuncId → Nat → Option LamF := Lm19 k
theorem Dl20_ok (k : Nat) : DeltaOk Tryd.prog (Dl20 k) := dCons_ok (Dl19_ok k) (g8_ok k)
theorem Lm20_ok (k : Nat) : LamsOk Tryd.prog (Lm20 k) := Lm19_ok k
abbrev cf20 (k : Nat) : CallF := evF Tryd.prog (Dl20 k) (Lm20 k) 200 12
theorem cf20_ok (k : Nat) : CfOk Tryd.prog (cf20 k) := evF_ok noNum mixed (Dl20_ok k) (Lm20_ok k) 12
abbrev P10 := Int × Int
def A10 (p : P10) : List AV := [.int .i64 p.1, .int .i64 p.2]
def d10 (a : List AV) (H : Heap) : Option P10 := match a, H with
  | [.int .i64 a0, .int .i64 a1], [] => some (a0, a1)
  | _, _ => none
theorem d10_ok (a : List AV) (H : Heap) (p : P10) (h : d10 a H = some p) : a = A10 p ∧ H = [] := by
  unfold d10 at h
  split at h
  · skip
    cases h; exact ⟨rfl, rfl⟩
  · cases h
abbrev R10 := Int × Bool
def o10 (r : R10) : AEnd := .ret (.tup [.int .i64 r.1, .bool r.2])
def u10 (r : R10) : Heap := []
def n10 (_ : R10) : Nat := 0
def r10 (o : AEnd) (u : Heap) (n : Nat) : Option R10 := match o, u, n with
  | .ret (.tup [.int .i64 a0, .bool a1]), [], 0 => some (a0, a1)
  | _, _, _ => none
theorem r10_ok (p : P10) (o : AEnd) (u : Heap) (n : Nat) (r : R10) (h : r10 o u n = some r) : o = o10 r ∧ u = u10 r ∧ n = n10 r := by
  unfold r10 at h
  split at h
  · skip
    cases h; exact ⟨rfl, rfl, rfl⟩
  · cases h
def f10 (k : Nat) (x0 : Int) (x1 : Int) : Option R10 :=
  br (decide (x0 < (0 : Int)))
   (some ((0 : Int), false))
   (br (decide (x1 < (1 : Int)))
    (some ((0 : Int), false))
    (br (decide (x1 > (7 : Int)))
     (some ((0 : Int), false))
     (br (!x1 == (0 : Int))
      (some (Int.tmod x0 x1, true))
      (none))))
theorem f10_run (k : Nat) (x0 : Int) (x1 : Int) : cf20 k R10 10 (A10 (x0, x1)) [] 0 (endR planR (.any) [] 0 r10) = f10 k x0 x1 := by kernel_rfl
def g10 (k : Nat) : CallS := entT d10 (fun p => f10 k p.1 p.2) (elAll _) (fun _ => o10) (fun _ => u10) (fun _ => n10)
theorem g10_ok (k : Nat) : CallSOk Tryd.prog 10 (g10 k) := entry_ok (Hp := fun _ => []) (oR := fun _ => o10) (uR := fun _ => u10) (nR := fun _ => n10) (cf20_ok k) d10_ok r10_ok (hel := elAll_ok) (fun p => f10_run k p.1 p.2)
def Dl21 (k : Nat) : Delta := dCons 10 (callAt plan [.any, .any] (g10 k)) (Dl20 k)
def Lm21 (k : Nat) : FuncId → Nat → Option LamF := Lm20 k
theorem Dl21_ok (k : Nat) : DeltaOk Tryd.prog (Dl21 k) := dCons_ok (Dl20_ok k) (g10_ok k)
theorem Lm21_ok (k : Nat) : LamsOk Tryd.prog (Lm21 k) := Lm20_ok k
abbrev cf21 (k : Nat) : CallF := evF Tryd.prog (Dl21 k) (Lm21 k) 200 12
theorem cf21_ok (k : Nat) : CfOk Tryd.prog (cf21 k) := evF_ok noNum mixed (Dl21_ok k) (Lm21_ok k) 12
abbrev P28 := Int
def A28 (p : P28) : List AV := [.int .i64 p]
def d28 (a : List AV) (H : Heap) : Option P28 := match a, H with
  | [.int .i64 a0], [] => some (a0)
  | _, _ => none
theorem d28_ok (a : List AV) (H : Heap) (p : P28) (h : d28 a H = some p) : a = A28 p ∧ H = [] := by
  unfold d28 at h
  split at h
  · skip
    cases h; exact ⟨rfl, rfl⟩
  · cases h
abbrev R28 := Int
def o28 (r : R28) : AEnd := .ret (.int .i64 r)
def u28 (r : R28) : Heap := []
def n28 (_ : R28) : Nat := 0
def r28 (o : AEnd) (u : Heap) (n : Nat) : Option R28 := match o, u, n with
  | .ret (.int .i64 a0), [], 0 => some (a0)
  | _, _, _ => none
theorem r28_ok (p : P28) (o : AEnd) (u : Heap) (n : Nat) (r : R28) (h : r28 o u n = some r) : o = o28 r ∧ u = u28 r ∧ n = n28 r := by
  unfold r28 at h
  split at h
  · skip
    cases h; exact ⟨rfl, rfl, rfl⟩
  · cases h
structure S28_0 where
  mk ::
  x0 : Int
  x3 : Int
  x4 : Int
def VS28_0 (s : S28_0) : List AV := [.int .i64 s.x0, .int .i64 s.x3, .int .i64 s.x4]
def HS28_0 (s : S28_0) : Heap := []
def dS28_0 (vs : List AV) (H : Heap) : Option S28_0 := match vs, H with
  | [.int .i64 x0, .int .i64 x3, .int .i64 x4], [] => some (⟨x0, x3, x4⟩ : S28_0)
  | _, _ => none
theorem dS28_0_ok (vs : List AV) (H : Heap) (s : S28_0) (h : dS28_0 vs H = some s) : vs = VS28_0 s ∧ H = HS28_0 s := by
  unfold dS28_0 at h
  split at h
  · skip
    cases h; exact ⟨rfl, rfl⟩
  · cases h
def tS28_0 : AExit → List (Nat × Kd) := fun x => match x with
  | .normal => [(0, .any), (3, .any), (4, .any)]
  | .exit i => (match i with | 0 => [(3, .any)] | _ => [])
  | .ret => [(2, .any)]
  | _ => []
structure E28_0 where
  mk ::
  x3 : Int
def VE28_0 (s : E28_0) : List AV := [.int .i64 s.x3]
def HE28_0 (s : E28_0) : Heap := []
def dE28_0 (x : AExit) (vs : List AV) (H : Heap) : Option E28_0 := match x, vs, H with
  | .exit 0, [.int .i64 x3], [] => some (⟨x3⟩ : E28_0)
  | _, _, _ => none
theorem dE28_0_ok (x : AExit) (vs : List AV) (H : Heap) (s : E28_0) (h : dE28_0 x vs H = some s) : x = .exit 0 ∧ vs = VE28_0 s ∧ H = HE28_0 s := by
  unfold dE28_0 at h
  split at h
  · skip
    cases h; exact ⟨rfl, rfl, rfl⟩
  · cases h
def xE28_0 (_ : E28_0) : AExit := .exit 0
def pS28_0 (k : Nat) (s : S28_0) : Option (S28_0 ⊕ E28_0) :=
  br (decide (S28_0.x4 s < S28_0.x0 s))
   (some (Sum.inl (S28_0.mk (S28_0.x0 s) (IntKind.wrap IntKind.i64 ((2 : Int) * S28_0.x3 s)) (IntKind.wrap IntKind.i64 (S28_0.x4 s + (1 : Int))))))
   (some (Sum.inr (E28_0.mk (S28_0.x3 s))))
theorem pS28_0_run (k : Nat) (s : S28_0) : evC (S28_0 ⊕ E28_0) Tryd.prog (ntmpsAt Tryd.prog 28) (cf21 k) ((Lm21 k) 28) 200 (loopAt Tryd.prog 28 0) (zipE [(0, .any), (3, .any), (4, .any)] (VS28_0 s)) (HS28_0 s) (List.length (HS28_0 s)) (cutS plan 0 tS28_0 (rndT dS28_0 dE28_0)) = pS28_0 k s := by kernel_rfl
def l28_0 (k : Nat) (s : S28_0) : Option E28_0 := iterT (pS28_0 k) k s
def m28_0 (k : Nat) : LamS := lamT 0 dS28_0 (l28_0 k) (elAll _) tS28_0 xE28_0 VE28_0 HE28_0
theorem loop28_0 : isLoopAt Tryd.prog 28 0 = true := by kernel_rfl
theorem m28_0_ok (k : Nat) : LamSOk Tryd.prog (ntmpsAt Tryd.prog 28) 0 (.block 0 (.loop (loopAt Tryd.prog 28 0))) [(0, .any), (3, .any), (4, .any)] (m28_0 k) := lamT_ok (plan := plan) (kb := 0) (body_run noNum mixed (cf21_ok k) (Lm21_ok k) loop28_0) rfl dS28_0_ok dE28_0_ok (hel := elAll_ok) (pS28_0_run k) k
def Dl22 (k : Nat) : Delta := Dl21 k
def Lm22 (k : Nat) : FuncId → Nat → Option LamF := lCons 28 0 (lamBy plan [5, 6, 7, 10, 11, 3, 8, 9, 4] [(0, .any), (3, .any), (4, .any)] 0 (m28_0 k)) (Lm21 k)
theorem Dl22_ok (k : Nat) : DeltaOk Tryd.prog (Dl22 k) := Dl21_ok k
theorem Lm22_ok (k : Nat) : LamsOk Tryd.prog (Lm22 k) := lCons_ok (Lm21_ok k) loop28_0 (lamBy_ok (m28_0_ok k) (by kernel_rfl))
abbrev cf22 (k : Nat) : CallF := evF Tryd.prog (Dl22 k) (Lm22 k) 200 12
theorem cf22_ok (k : Nat) : CfOk Tryd.prog (cf22 k) := evF_ok noNum mixed (Dl22_ok k) (Lm22_ok k) 12
def f28 (k : Nat) (x0 : Int) : Option R28 :=
  bindO (l28_0 k (S28_0.mk x0 (1 : Int) (0 : Int))) fun r3000 =>
   some (E28_0.x3 r3000)
theorem f28_run (k : Nat) (x0 : Int) : cf22 k R28 28 (A28 (x0)) [] 0 (endR planR (.any) [] 0 r28) = f28 k x0 := by kernel_rfl
def g28 (k : Nat) : CallS := entT d28 (fun p => f28 k p) (elAll _) (fun _ => o28) (fun _ => u28) (fun _ => n28)
theorem g28_ok (k : Nat) : CallSOk Tryd.prog 28 (g28 k) := entry_ok (Hp := fun _ => []) (oR := fun _ => o28) (uR := fun _ => u28) (nR := fun _ => n28) (cf22_ok k) d28_ok r28_ok (hel := elAll_ok) (fun p => f28_run k p)
def Dl23 (k : Nat) : Delta := dCons 28 (callAt plan [.any] (g28 k)) (Dl22 k)
def Lm23 (k : Nat) : FuncId → Nat → Option LamF := Lm22 k
theorem Dl23_ok (k : Nat) : DeltaOk Tryd.prog (Dl23 k) := dCons_ok (Dl22_ok k) (g28_ok k)
theorem Lm23_ok (k : Nat) : LamsOk Tryd.prog (Lm23 k) := Lm22_ok k
abbrev cf23 (k : Nat) : CallF := evF Tryd.prog (Dl23 k) (Lm23 k) 200 12
theorem cf23_ok (k : Nat) : CfOk Tryd.prog (cf23 k) := evF_ok noNum mixed (Dl23_ok k) (Lm23_ok k) 12
abbrev P14 := Int × Int
def A14 (p : P14) : List AV := [.int .i64 p.1, .int .i64 p.2]
def d14 (a : List AV) (H : Heap) : Option P14 := match a, H with
  | [.int .i64 a0, .int .i64 a1], [] => some (a0, a1)
  | _, _ => none
theorem d14_ok (a : List AV) (H : Heap) (p : P14) (h : d14 a H = some p) : a = A14 p ∧ H = [] := by
  unfold d14 at h
  split at h
  · skip
    cases h; exact ⟨rfl, rfl⟩
  · cases h
abbrev R14 := Bool
def o14 (r : R14) : AEnd := .ret (.bool r)
def u14 (r : R14) : Heap := []
def n14 (_ : R14) : Nat := 0
def r14 (o : AEnd) (u : Heap) (n : Nat) : Option R14 := match o, u, n with
  | .ret (.bool a0), [], 0 => some (a0)
  | _, _, _ => none
theorem r14_ok (p : P14) (o : AEnd) (u : Heap) (n : Nat) (r : R14) (h : r14 o u n = some r) : o = o14 r ∧ u = u14 r ∧ n = n14 r := by
  unfold r14 at h
  split at h
  · skip
    cases h; exact ⟨rfl, rfl, rfl⟩
  · cases h
def f14 (k : Nat) (x0 : Int) (x1 : Int) : Option R14 :=
  br (decide (x0 < (0 : Int)))
   (some false)
   (br (decide (x0 > (127 : Int)))
    (some false)
    (br (decide (x1 < (0 : Int)))
     (some false)
     (br (decide (x1 > (6 : Int)))
      (some false)
      (bindO (f28 k x1) fun r2996 =>
       br (!r2996 == (0 : Int))
        (some (Int.tmod (IntKind.wrap IntKind.i64 (Int.tdiv x0 r2996)) (2 : Int) == (1 : Int)))
        (none)))))
theorem f14_run (k : Nat) (x0 : Int) (x1 : Int) : cf23 k R14 14 (A14 (x0, x1)) [] 0 (endR planR (.any) [] 0 r14) = f14 k x0 x1 := by kernel_rfl
def g14 (k : Nat) : CallS := entT d14 (fun p => f14 k p.1 p.2) (elAll _) (fun _ => o14) (fun _ => u14) (fun _ => n14)
theorem g14_ok (k : Nat) : CallSOk Tryd.prog 14 (g14 k) := entry_ok (Hp := fun _ => []) (oR := fun _ => o14) (uR := fun _ => u14) (nR := fun _ => n14) (cf23_ok k) d14_ok r14_ok (hel := elAll_ok) (fun p => f14_run k p.1 p.2)
def Dl24 (k : Nat) : Delta := dCons 14 (callAt plan [.any, .any] (g14 k)) (Dl23 k)
def Lm24 (k : Nat) : FuncId → Nat → Option LamF := Lm23 k
theorem Dl24_ok (k : Nat) : DeltaOk Tryd.prog (Dl24 k) := dCons_ok (Dl23_ok k) (g14_ok k)
theorem Lm24_ok (k : Nat) : LamsOk Tryd.prog (Lm24 k) := Lm23_ok k
abbrev cf24 (k : Nat) : CallF := evF Tryd.prog (Dl24 k) (Lm24 k) 200 12
theorem cf24_ok (k : Nat) : CfOk Tryd.prog (cf24 k) := evF_ok noNum mixed (Dl24_ok k) (Lm24_ok k) 12
abbrev P12 := Int × List Int
def A12 (p : P12) : List AV := [.int .i64 p.1, .dsl 3 p.2]
def d12 (a : List AV) (H : Heap) : Option P12 := match a, H with
  | [.int .i64 a0, ba1], [] => (match (dslD 3 ba1 : Option (List Int)) with | some a1 => some (a0, a1) | none => none)
  | _, _ => none
theorem d12_ok (a : List AV) (H : Heap) (p : P12) (h : d12 a H = some p) : a = A12 p ∧ H = [] := by
  unfold d12 at h
  split at h
  · skip
    split at h
    · rename_i q
      have q := dslD_ok q
      subst q
      cases h; exact ⟨rfl, rfl⟩
    · cases h
  · cases h
abbrev R12 := Int
def o12 (r : R12) : AEnd := .ret (.int .i64 r)
def u12 (r : R12) : Heap := []
def n12 (_ : R12) : Nat := 0
def r12 (o : AEnd) (u : Heap) (n : Nat) : Option R12 := match o, u, n with
  | .ret (.int .i64 a0), [], 0 => some (a0)
  | _, _, _ => none
theorem r12_ok (p : P12) (o : AEnd) (u : Heap) (n : Nat) (r : R12) (h : r12 o u n = some r) : o = o12 r ∧ u = u12 r ∧ n = n12 r := by
  unfold r12 at h
  split at h
  · skip
    cases h; exact ⟨rfl, rfl, rfl⟩
  · cases h
structure S12_0 where
  mk ::
  x0 : Int
  x1 : List Int
  x5 : Int
def VS12_0 (s : S12_0) : List AV := [.int .i64 s.x0, .dsl 3 s.x1, .int .i64 s.x5]
def HS12_0 (s : S12_0) : Heap := []
def dS12_0 (vs : List AV) (H : Heap) : Option S12_0 := match vs, H with
  | [.int .i64 x0, bx1, .int .i64 x5], [] => (match (dslD 3 bx1 : Option (List Int)) with | some x1 => some (⟨x0, x1, x5⟩ : S12_0) | none => none)
  | _, _ => none
theorem dS12_0_ok (vs : List AV) (H : Heap) (s : S12_0) (h : dS12_0 vs H = some s) : vs = VS12_0 s ∧ H = HS12_0 s := by
  unfold dS12_0 at h
  split at h
  · skip
    split at h
    · rename_i q
      have q := dslD_ok q
      subst q
      cases h; exact ⟨rfl, rfl⟩
    · cases h
  · cases h
def tS12_0 : AExit → List (Nat × Kd) := fun x => match x with
  | .normal => [(0, .any), (1, .rd 3), (5, .any)]
  | .exit i => (match i with | 0 => [(0, .any)] | _ => [])
  | .ret => [(4, .any)]
  | _ => []
structure E12_0 where
  mk ::
  x0 : Int
def VE12_0 (s : E12_0) : List AV := [.int .i64 s.x0]
def HE12_0 (s : E12_0) : Heap := []
def dE12_0 (x : AExit) (vs : List AV) (H : Heap) : Option E12_0 := match x, vs, H with
  | .exit 0, [.int .i64 x0], [] => some (⟨x0⟩ : E12_0)
  | _, _, _ => none
theorem dE12_0_ok (x : AExit) (vs : List AV) (H : Heap) (s : E12_0) (h : dE12_0 x vs H = some s) : x = .exit 0 ∧ vs = VE12_0 s ∧ H = HE12_0 s := by
  unfold dE12_0 at h
  split at h
  · skip
    cases h; exact ⟨rfl, rfl, rfl⟩
  · cases h
def xE12_0 (_ : E12_0) : AExit := .exit 0
def pS12_0 (k : Nat) (s : S12_0) : Option (S12_0 ⊕ E12_0) :=
  br (decide (S12_0.x5 s < (↑(List.length (S12_0.x1 s)) : Int)))
   (br (decide ((0 : Int) ≤ S12_0.x5 s ∧ S12_0.x5 s < (↑(List.length (S12_0.x1 s)) : Int)))
    (br (decide (List.getD (S12_0.x1 s) (Int.toNat (S12_0.x5 s)) (0 : Int) ≥ (0 : Int)))
     (br (decide ((0 : Int) ≤ S12_0.x5 s ∧ S12_0.x5 s < (↑(List.length (S12_0.x1 s)) : Int)))
      (br (decide (List.getD (S12_0.x1 s) (Int.toNat (S12_0.x5 s)) (0 : Int) ≤ (6 : Int)))
       (br (decide ((0 : Int) ≤ S12_0.x5 s ∧ S12_0.x5 s < (↑(List.length (S12_0.x1 s)) : Int)))
        (bindO (f14 k (S12_0.x0 s) (List.getD (S12_0.x1 s) (Int.toNat (S12_0.x5 s)) (0 : Int))) fun r1500 =>
         br (!r1500)
          (br (decide ((0 : Int) ≤ S12_0.x5 s ∧ S12_0.x5 s < (↑(List.length (S12_0.x1 s)) : Int)))
           (bindO (f28 k (List.getD (S12_0.x1 s) (Int.toNat (S12_0.x5 s)) (0 : Int))) fun r1499 =>
            some (Sum.inl (S12_0.mk (IntKind.wrap IntKind.i64 (S12_0.x0 s + r1499)) (S12_0.x1 s) (IntKind.wrap IntKind.i64 (S12_0.x5 s + (1 : Int))))))
           (none))
          (some (Sum.inl (S12_0.mk (S12_0.x0 s) (S12_0.x1 s) (IntKind.wrap IntKind.i64 (S12_0.x5 s + (1 : Int)))))))
        (none))
       (some (Sum.inl (S12_0.mk (S12_0.x0 s) (S12_0.x1 s) (IntKind.wrap IntKind.i64 (S12_0.x5 s + (1 : Int)))))))
      (none))
     (some (Sum.inl (S12_0.mk (S12_0.x0 s) (S12_0.x1 s) (IntKind.wrap IntKind.i64 (S12_0.x5 s + (1 : Int)))))))
    (none))
   (some (Sum.inr (E12_0.mk (S12_0.x0 s))))
theorem pS12_0_run (k : Nat) (s : S12_0) : evC (S12_0 ⊕ E12_0) Tryd.prog (ntmpsAt Tryd.prog 12) (cf24 k) ((Lm24 k) 12) 200 (loopAt Tryd.prog 12 0) (zipE [(0, .any), (1, .rd 3), (5, .any)] (VS12_0 s)) (HS12_0 s) (List.length (HS12_0 s)) (cutS plan 0 tS12_0 (rndT dS12_0 dE12_0)) = pS12_0 k s := by kernel_rfl
def l12_0 (k : Nat) (s : S12_0) : Option E12_0 := iterT (pS12_0 k) k s
def m12_0 (k : Nat) : LamS := lamT 0 dS12_0 (l12_0 k) (elAll _) tS12_0 xE12_0 VE12_0 HE12_0
theorem loop12_0 : isLoopAt Tryd.prog 12 0 = true := by kernel_rfl
theorem m12_0_ok (k : Nat) : LamSOk Tryd.prog (ntmpsAt Tryd.prog 12) 0 (.block 0 (.loop (loopAt Tryd.prog 12 0))) [(0, .any), (1, .rd 3), (5, .any)] (m12_0 k) := lamT_ok (plan := plan) (kb := 0) (body_run noNum mixed (cf24_ok k) (Lm24_ok k) loop12_0) rfl dS12_0_ok dE12_0_ok (hel := elAll_ok) (pS12_0_run k) k
def Dl25 (k : Nat) : Delta := Dl24 k
def Lm25 (k : Nat) : FuncId → Nat → Option LamF := lCons 12 0 (lamBy plan [12, 13, 14, 15, 18, 19, 20, 21, 22, 23, 24, 25, 26, 27, 28, 29, 30, 31, 32, 33, 34, 35, 36, 37, 38, 39, 40, 41, 42, 43, 44, 45, 0, 16, 17, 5] [(0, .any), (1, .rd 3), (5, .any)] 0 (m12_0 k)) (Lm24 k)
theorem Dl25_ok (k : Nat) : DeltaOk Tryd.prog (Dl25 k) := Dl24_ok k
theorem Lm25_ok (k : Nat) : LamsOk Tryd.prog (Lm25 k) := lCons_ok (Lm24_ok k) loop12_0 (lamBy_ok (m12_0_ok k) (by kernel_rfl))
abbrev cf25 (k : Nat) : CallF := evF Tryd.prog (Dl25 k) (Lm25 k) 200 12
theorem cf25_ok (k : Nat) : CfOk Tryd.prog (cf25 k) := evF_ok noNum mixed (Dl25_ok k) (Lm25_ok k) 12
def f12 (k : Nat) (x0 : Int) (x1 : List Int) : Option R12 :=
  br (decide (x0 < (0 : Int)))
   (bindO (l12_0 k (S12_0.mk (0 : Int) x1 (0 : Int))) fun r3000 =>
    some (E12_0.x0 r3000))
   (br (decide (x0 > (127 : Int)))
    (bindO (l12_0 k (S12_0.mk (0 : Int) x1 (0 : Int))) fun r2998 =>
     some (E12_0.x0 r2998))
    (bindO (l12_0 k (S12_0.mk x0 x1 (0 : Int))) fun r2996 =>
     some (E12_0.x0 r2996)))
theorem f12_run (k : Nat) (x0 : Int) (x1 : List Int) : cf25 k R12 12 (A12 (x0, x1)) [] 0 (endR planR (.any) [] 0 r12) = f12 k x0 x1 := by kernel_rfl
def g12 (k : Nat) : CallS := entT d12 (fun p => f12 k p.1 p.2) (elAll _) (fun _ => o12) (fun _ => u12) (fun _ => n12)
theorem g12_ok (k : Nat) : CallSOk Tryd.prog 12 (g12 k) := entry_ok (Hp := fun _ => []) (oR := fun _ => o12) (uR := fun _ => u12) (nR := fun _ => n12) (cf25_ok k) d12_ok r12_ok (hel := elAll_ok) (fun p => f12_run k p.1 p.2)
def Dl26 (k : Nat) : Delta := dCons 12 (callAt plan [.any, .rd 3] (g12 k)) (Dl25 k)
def Lm26 (k : Nat) : FuncId → Nat → Option LamF := Lm25 k
theorem Dl26_ok (k : Nat) : DeltaOk Tryd.prog (Dl26 k) := dCons_ok (Dl25_ok k) (g12_ok k)
theorem Lm26_ok (k : Nat) : LamsOk Tryd.prog (Lm26 k) := Lm25_ok k
abbrev cf26 (k : Nat) : CallF := evF Tryd.prog (Dl26 k) (Lm26 k) 200 12
theorem cf26_ok (k : Nat) : CfOk Tryd.prog (cf26 k) := evF_ok noNum mixed (Dl26_ok k) (Lm26_ok k) 12
abbrev P19 := Int
def A19 (p : P19) : List AV := [.int .i64 p]
def d19 (a : List AV) (H : Heap) : Option P19 := match a, H with
  | [.int .i64 a0], [] => some (a0)
  | _, _ => none
theorem d19_ok (a : List AV) (H : Heap) (p : P19) (h : d19 a H = some p) : a = A19 p ∧ H = [] := by
  unfold d19 at h
  split at h
  · skip
    cases h; exact ⟨rfl, rfl⟩
  · cases h
abbrev R19 := List Int
def o19 (r : R19) : AEnd := .ret (.dsl 3 r)
def u19 (r : R19) : Heap := []
def n19 (_ : R19) : Nat := 0
def r19 (o : AEnd) (u : Heap) (n : Nat) : Option R19 := match o, u, n with
  | .ret ba0, [], 0 => (match (dslD 3 ba0 : Option (List Int)) with | some a0 => some (a0) | none => none)
  | _, _, _ => none
theorem r19_ok (p : P19) (o : AEnd) (u : Heap) (n : Nat) (r : R19) (h : r19 o u n = some r) : o = o19 r ∧ u = u19 r ∧ n = n19 r := by
  unfold r19 at h
  split at h
  · skip
    split at h
    · rename_i q
      have q := dslD_ok q
      subst q
      cases h; exact ⟨rfl, rfl, rfl⟩
    · cases h
  · cases h
structure S19_0 where
  mk ::
  x0 : Int
  x4 : Int
  h0 : List Int
def VS19_0 (s : S19_0) : List AV := [.int .i64 s.x0, .slf 0, .int .i64 s.x4]
def HS19_0 (s : S19_0) : Heap := [(0, some (.row 3 s.h0))]
def dS19_0 (vs : List AV) (H : Heap) : Option S19_0 := match vs, H with
  | [.int .i64 x0, .slf 0, .int .i64 x4], [(0, bh0)] => (match (rowD 3 bh0 : Option (List Int)) with | some h0 => some (⟨x0, x4, h0⟩ : S19_0) | none => none)
  | _, _ => none
theorem dS19_0_ok (vs : List AV) (H : Heap) (s : S19_0) (h : dS19_0 vs H = some s) : vs = VS19_0 s ∧ H = HS19_0 s := by
  unfold dS19_0 at h
  split at h
  · skip
    split at h
    · rename_i q
      have q := rowD_ok q
      subst q
      cases h; exact ⟨rfl, rfl⟩
    · cases h
  · cases h
def tS19_0 : AExit → List (Nat × Kd) := fun x => match x with
  | .normal => [(0, .any), (3, .own 3), (4, .any)]
  | .exit i => (match i with | 0 => [(3, .own 3)] | _ => [])
  | .ret => [(2, .rd 3)]
  | _ => []
structure E19_0 where
  mk ::
  h0 : List Int
def VE19_0 (s : E19_0) : List AV := [.slf 0]
def HE19_0 (s : E19_0) : Heap := [(0, some (.row 3 s.h0))]
def dE19_0 (x : AExit) (vs : List AV) (H : Heap) : Option E19_0 := match x, vs, H with
  | .exit 0, [.slf 0], [(0, bh0)] => (match (rowD 3 bh0 : Option (List Int)) with | some h0 => some (⟨h0⟩ : E19_0) | none => none)
  | _, _, _ => none
theorem dE19_0_ok (x : AExit) (vs : List AV) (H : Heap) (s : E19_0) (h : dE19_0 x vs H = some s) : x = .exit 0 ∧ vs = VE19_0 s ∧ H = HE19_0 s := by
  unfold dE19_0 at h
  split at h
  · skip
    split at h
    · rename_i q
      have q := rowD_ok q
      subst q
      cases h; exact ⟨rfl, rfl, rfl⟩
    · cases h
  · cases h
def xE19_0 (_ : E19_0) : AExit := .exit 0
def pS19_0 (k : Nat) (s : S19_0) : Option (S19_0 ⊕ E19_0) :=
  br (decide (S19_0.x4 s ≤ (6 : Int)))
   (bindO (f14 k (S19_0.x0 s) (S19_0.x4 s)) fun r1500 =>
    br r1500
     (br (true && decide ((List.length (S19_0.h0 s) + List.length [S19_0.x4 s]) * (8 : Nat) ≤ (140737488355328 : Nat)))
      (some (Sum.inl (S19_0.mk (S19_0.x0 s) (IntKind.wrap IntKind.i64 (S19_0.x4 s + (1 : Int))) (S19_0.h0 s ++ [S19_0.x4 s]))))
      (none))
     (some (Sum.inl (S19_0.mk (S19_0.x0 s) (IntKind.wrap IntKind.i64 (S19_0.x4 s + (1 : Int))) (S19_0.h0 s)))))
   (some (Sum.inr (E19_0.mk (S19_0.h0 s))))
theorem pS19_0_run (k : Nat) (s : S19_0) : evC (S19_0 ⊕ E19_0) Tryd.prog (ntmpsAt Tryd.prog 19) (cf26 k) ((Lm26 k) 19) 200 (loopAt Tryd.prog 19 0) (zipE [(0, .any), (3, .own 3), (4, .any)] (VS19_0 s)) (HS19_0 s) (List.length (HS19_0 s)) (cutS plan 0 tS19_0 (rndT dS19_0 dE19_0)) = pS19_0 k s := by kernel_rfl
def l19_0 (k : Nat) (s : S19_0) : Option E19_0 := iterT (pS19_0 k) k s
def m19_0 (k : Nat) : LamS := lamT 0 dS19_0 (l19_0 k) (elAll _) tS19_0 xE19_0 VE19_0 HE19_0
theorem loop19_0 : isLoopAt Tryd.prog 19 0 = true := by kernel_rfl
theorem m19_0_ok (k : Nat) : LamSOk Tryd.prog (ntmpsAt Tryd.prog 19) 0 (.block 0 (.loop (loopAt Tryd.prog 19 0))) [(0, .any), (3, .own 3), (4, .any)] (m19_0 k) := lamT_ok (plan := plan) (kb := 0) (body_run noNum mixed (cf26_ok k) (Lm26_ok k) loop19_0) rfl dS19_0_ok dE19_0_ok (hel := elAll_ok) (pS19_0_run k) k
def Dl27 (k : Nat) : Delta := Dl26 k
def Lm27 (k : Nat) : FuncId → Nat → Option LamF := lCons 19 0 (lamBy plan [5, 6, 9, 10, 11, 12, 13, 14, 15, 3, 7, 8, 4] [(0, .any), (3, .own 3), (4, .any)] 0 (m19_0 k)) (Lm26 k)
theorem Dl27_ok (k : Nat) : DeltaOk Tryd.prog (Dl27 k) := Dl26_ok k
theorem Lm27_ok (k : Nat) : LamsOk Tryd.prog (Lm27 k) := lCons_ok (Lm26_ok k) loop19_0 (lamBy_ok (m19_0_ok k) (by kernel_rfl))
abbrev cf27 (k : Nat) : CallF := evF Tryd.prog (Dl27 k) (Lm27 k) 200 12
theorem cf27_ok (k : Nat) : CfOk Tryd.prog (cf27 k) := evF_ok noNum mixed (Dl27_ok k) (Lm27_ok k) 12
def f19 (k : Nat) (x0 : Int) : Option R19 :=
  bindO (l19_0 k (S19_0.mk x0 (0 : Int) [])) fun r3000 =>
   some (E19_0.h0 r3000)
theorem f19_run (k : Nat) (x0 : Int) : cf27 k R19 19 (A19 (x0)) [] 0 (endR planR (.ro 3) [] 0 r19) = f19 k x0 := by kernel_rfl
def g19 (k : Nat) : CallS := entT d19 (fun p => f19 k p) (elAll _) (fun _ => o19) (fun _ => u19) (fun _ => n19)
theorem g19_ok (k : Nat) : CallSOk Tryd.prog 19 (g19 k) := entry_ok (Hp := fun _ => []) (oR := fun _ => o19) (uR := fun _ => u19) (nR := fun _ => n19) (cf27_ok k) d19_ok r19_ok (hel := elAll_ok) (fun p => f19_run k p)
def Dl28 (k : Nat) : Delta := dCons 19 (callAt plan [.any] (g19 k)) (Dl27 k)
def Lm28 (k : Nat) : FuncId → Nat → Option LamF := Lm27 k
theorem Dl28_ok (k : Nat) : DeltaOk Tryd.prog (Dl28 k) := dCons_ok (Dl27_ok k) (g19_ok k)
theorem Lm28_ok (k : Nat) : LamsOk Tryd.prog (Lm28 k) := Lm27_ok k
abbrev cf28 (k : Nat) : CallF := evF Tryd.prog (Dl28 k) (Lm28 k) 200 12
theorem cf28_ok (k : Nat) : CfOk Tryd.prog (cf28 k) := evF_ok noNum mixed (Dl28_ok k) (Lm28_ok k) 12
abbrev P16 := Int
def A16 (p : P16) : List AV := [.int .i64 p]
def d16 (a : List AV) (H : Heap) : Option P16 := match a, H with
  | [.int .i64 a0], [] => some (a0)
  | _, _ => none
theorem d16_ok (a : List AV) (H : Heap) (p : P16) (h : d16 a H = some p) : a = A16 p ∧ H = [] := by
  unfold d16 at h
  split at h
  · skip
    cases h; exact ⟨rfl, rfl⟩
  · cases h
abbrev R16 := Int
def o16 (r : R16) : AEnd := .ret (.int .i64 r)
def u16 (r : R16) : Heap := []
def n16 (_ : R16) : Nat := 0
def r16 (o : AEnd) (u : Heap) (n : Nat) : Option R16 := match o, u, n with
  | .ret (.int .i64 a0), [], 0 => some (a0)
  | _, _, _ => none
theorem r16_ok (p : P16) (o : AEnd) (u : Heap) (n : Nat) (r : R16) (h : r16 o u n = some r) : o = o16 r ∧ u = u16 r ∧ n = n16 r := by
  unfold r16 at h
  split at h
  · skip
    cases h; exact ⟨rfl, rfl, rfl⟩
  · cases h
def f16 (k : Nat) (x0 : Int) : Option R16 :=
  bindO (f19 k x0) fun r3000 =>
   some (↑(List.length r3000) : Int)
theorem f16_run (k : Nat) (x0 : Int) : cf28 k R16 16 (A16 (x0)) [] 0 (endR planR (.any) [] 0 r16) = f16 k x0 := by kernel_rfl
def g16 (k : Nat) : CallS := entT d16 (fun p => f16 k p) (elAll _) (fun _ => o16) (fun _ => u16) (fun _ => n16)
theorem g16_ok (k : Nat) : CallSOk Tryd.prog 16 (g16 k) := entry_ok (Hp := fun _ => []) (oR := fun _ => o16) (uR := fun _ => u16) (nR := fun _ => n16) (cf28_ok k) d16_ok r16_ok (hel := elAll_ok) (fun p => f16_run k p)
def Dl29 (k : Nat) : Delta := dCons 16 (callAt plan [.any] (g16 k)) (Dl28 k)
def Lm29 (k : Nat) : FuncId → Nat → Option LamF := Lm28 k
theorem Dl29_ok (k : Nat) : DeltaOk Tryd.prog (Dl29 k) := dCons_ok (Dl28_ok k) (g16_ok k)
theorem Lm29_ok (k : Nat) : LamsOk Tryd.prog (Lm29 k) := Lm28_ok k
abbrev cf29 (k : Nat) : CallF := evF Tryd.prog (Dl29 k) (Lm29 k) 200 12
theorem cf29_ok (k : Nat) : CfOk Tryd.prog (cf29 k) := evF_ok noNum mixed (Dl29_ok k) (Lm29_ok k) 12
abbrev P31 := Int
def A31 (p : P31) : List AV := [.int .i64 p]
def d31 (a : List AV) (H : Heap) : Option P31 := match a, H with
  | [.int .i64 a0], [] => some (a0)
  | _, _ => none
theorem d31_ok (a : List AV) (H : Heap) (p : P31) (h : d31 a H = some p) : a = A31 p ∧ H = [] := by
  unfold d31 at h
  split at h
  · skip
    cases h; exact ⟨rfl, rfl⟩
  · cases h
abbrev R31 := Int
def o31 (r : R31) : AEnd := .ret (.int .i64 r)
def u31 (r : R31) : Heap := []
def n31 (_ : R31) : Nat := 0
def r31 (o : AEnd) (u : Heap) (n : Nat) : Option R31 := match o, u, n with
  | .ret (.int .i64 a0), [], 0 => some (a0)
  | _, _, _ => none
theorem r31_ok (p : P31) (o : AEnd) (u : Heap) (n : Nat) (r : R31) (h : r31 o u n = some r) : o = o31 r ∧ u = u31 r ∧ n = n31 r := by
  unfold r31 at h
  split at h
  · skip
    cases h; exact ⟨rfl, rfl, rfl⟩
  · cases h
def f31 (k : Nat) (x0 : Int) : Option R31 :=
  some (IntKind.wrap IntKind.i64 (IntKind.wrap IntKind.i64 (Int.tdiv x0 (2 : Int)) + (1 : Int)))
theorem f31_run (k : Nat) (x0 : Int) : cf29 k R31 31 (A31 (x0)) [] 0 (endR planR (.any) [] 0 r31) = f31 k x0 := by kernel_rfl
def g31 (k : Nat) : CallS := entT d31 (fun p => f31 k p) (elAll _) (fun _ => o31) (fun _ => u31) (fun _ => n31)
theorem g31_ok (k : Nat) : CallSOk Tryd.prog 31 (g31 k) := entry_ok (Hp := fun _ => []) (oR := fun _ => o31) (uR := fun _ => u31) (nR := fun _ => n31) (cf29_ok k) d31_ok r31_ok (hel := elAll_ok) (fun p => f31_run k p)
def Dl30 (k : Nat) : Delta := dCons 31 (callAt plan [.any] (g31 k)) (Dl29 k)
def Lm30 (k : Nat) : FuncId → Nat → Option LamF := Lm29 k
theorem Dl30_ok (k : Nat) : DeltaOk Tryd.prog (Dl30 k) := dCons_ok (Dl29_ok k) (g31_ok k)
theorem Lm30_ok (k : Nat) : LamsOk Tryd.prog (Lm30 k) := Lm29_ok k
abbrev cf30 (k : Nat) : CallF := evF Tryd.prog (Dl30 k) (Lm30 k) 200 12
theorem cf30_ok (k : Nat) : CfOk Tryd.prog (cf30 k) := evF_ok noNum mixed (Dl30_ok k) (Lm30_ok k) 12
abbrev P21 := Int × Int
def A21 (p : P21) : List AV := [.int .i64 p.1, .int .i64 p.2]
def d21 (a : List AV) (H : Heap) : Option P21 := match a, H with
  | [.int .i64 a0, .int .i64 a1], [] => some (a0, a1)
  | _, _ => none
theorem d21_ok (a : List AV) (H : Heap) (p : P21) (h : d21 a H = some p) : a = A21 p ∧ H = [] := by
  unfold d21 at h
  split at h
  · skip
    cases h; exact ⟨rfl, rfl⟩
  · cases h
abbrev R21 := Bool
def o21 (r : R21) : AEnd := .ret (.bool r)
def u21 (r : R21) : Heap := []
def n21 (_ : R21) : Nat := 0
def r21 (o : AEnd) (u : Heap) (n : Nat) : Option R21 := match o, u, n with
  | .ret (.bool a0), [], 0 => some (a0)
  | _, _, _ => none
theorem r21_ok (p : P21) (o : AEnd) (u : Heap) (n : Nat) (r : R21) (h : r21 o u n = some r) : o = o21 r ∧ u = u21 r ∧ n = n21 r := by
  unfold r21 at h
  split at h
  · skip
    cases h; exact ⟨rfl, rfl, rfl⟩
  · cases h
structure S21_0 where
  mk ::
  x0 : Int
  x1 : Int
  x5 : Int
  x6 : Int
def VS21_0 (s : S21_0) : List AV := [.int .i64 s.x0, .int .i64 s.x1, .int .i64 s.x5, .int .i64 s.x6]
def HS21_0 (s : S21_0) : Heap := []
def dS21_0 (vs : List AV) (H : Heap) : Option S21_0 := match vs, H with
  | [.int .i64 x0, .int .i64 x1, .int .i64 x5, .int .i64 x6], [] => some (⟨x0, x1, x5, x6⟩ : S21_0)
  | _, _ => none
theorem dS21_0_ok (vs : List AV) (H : Heap) (s : S21_0) (h : dS21_0 vs H = some s) : vs = VS21_0 s ∧ H = HS21_0 s := by
  unfold dS21_0 at h
  split at h
  · skip
    cases h; exact ⟨rfl, rfl⟩
  · cases h
def tS21_0 : AExit → List (Nat × Kd) := fun x => match x with
  | .normal => [(0, .any), (1, .any), (5, .any), (6, .any)]
  | .exit i => (match i with | 0 => [(1, .any), (5, .any)] | _ => [])
  | .ret => [(4, .any)]
  | _ => []
structure E21_0 where
  mk ::
  x1 : Int
  x5 : Int
def VE21_0 (s : E21_0) : List AV := [.int .i64 s.x1, .int .i64 s.x5]
def HE21_0 (s : E21_0) : Heap := []
def dE21_0 (x : AExit) (vs : List AV) (H : Heap) : Option E21_0 := match x, vs, H with
  | .exit 0, [.int .i64 x1, .int .i64 x5], [] => some (⟨x1, x5⟩ : E21_0)
  | _, _, _ => none
theorem dE21_0_ok (x : AExit) (vs : List AV) (H : Heap) (s : E21_0) (h : dE21_0 x vs H = some s) : x = .exit 0 ∧ vs = VE21_0 s ∧ H = HE21_0 s := by
  unfold dE21_0 at h
  split at h
  · skip
    cases h; exact ⟨rfl, rfl, rfl⟩
  · cases h
def xE21_0 (_ : E21_0) : AExit := .exit 0
def pS21_0 (k : Nat) (s : S21_0) : Option (S21_0 ⊕ E21_0) :=
  br (decide (S21_0.x6 s < S21_0.x1 s))
   (bindO (f14 k (S21_0.x0 s) (S21_0.x6 s)) fun r1500 =>
    br r1500
     (some (Sum.inl (S21_0.mk (S21_0.x0 s) (S21_0.x1 s) (IntKind.wrap IntKind.i64 (S21_0.x5 s + (1 : Int))) (IntKind.wrap IntKind.i64 (S21_0.x6 s + (1 : Int))))))
     (some (Sum.inl (S21_0.mk (S21_0.x0 s) (S21_0.x1 s) (S21_0.x5 s) (IntKind.wrap IntKind.i64 (S21_0.x6 s + (1 : Int)))))))
   (some (Sum.inr (E21_0.mk (S21_0.x1 s) (S21_0.x5 s))))
theorem pS21_0_run (k : Nat) (s : S21_0) : evC (S21_0 ⊕ E21_0) Tryd.prog (ntmpsAt Tryd.prog 21) (cf30 k) ((Lm30 k) 21) 200 (loopAt Tryd.prog 21 0) (zipE [(0, .any), (1, .any), (5, .any), (6, .any)] (VS21_0 s)) (HS21_0 s) (List.length (HS21_0 s)) (cutS plan 0 tS21_0 (rndT dS21_0 dE21_0)) = pS21_0 k s := by kernel_rfl
def l21_0 (k : Nat) (s : S21_0) : Option E21_0 := iterT (pS21_0 k) k s
def m21_0 (k : Nat) : LamS := lamT 0 dS21_0 (l21_0 k) (elAll _) tS21_0 xE21_0 VE21_0 HE21_0
theorem loop21_0 : isLoopAt Tryd.prog 21 0 = true := by kernel_rfl
theorem m21_0_ok (k : Nat) : LamSOk Tryd.prog (ntmpsAt Tryd.prog 21) 0 (.block 0 (.loop (loopAt Tryd.prog 21 0))) [(0, .any), (1, .any), (5, .any), (6, .any)] (m21_0 k) := lamT_ok (plan := plan) (kb := 0) (body_run noNum mixed (cf30_ok k) (Lm30_ok k) loop21_0) rfl dS21_0_ok dE21_0_ok (hel := elAll_ok) (pS21_0_run k) k
def Dl31 (k : Nat) : Delta := Dl30 k
def Lm31 (k : Nat) : FuncId → Nat → Option LamF := lCons 21 0 (lamBy plan [13, 14, 15, 18, 19, 20, 21, 22, 5, 16, 17, 6] [(0, .any), (1, .any), (5, .any), (6, .any)] 0 (m21_0 k)) (Lm30 k)
theorem Dl31_ok (k : Nat) : DeltaOk Tryd.prog (Dl31 k) := Dl30_ok k
theorem Lm31_ok (k : Nat) : LamsOk Tryd.prog (Lm31 k) := lCons_ok (Lm30_ok k) loop21_0 (lamBy_ok (m21_0_ok k) (by kernel_rfl))
abbrev cf31 (k : Nat) : CallF := evF Tryd.prog (Dl31 k) (Lm31 k) 200 12
theorem cf31_ok (k : Nat) : CfOk Tryd.prog (cf31 k) := evF_ok noNum mixed (Dl31_ok k) (Lm31_ok k) 12
def f21 (k : Nat) (x0 : Int) (x1 : Int) : Option R21 :=
  br (decide (x1 < (1 : Int)))
   (some false)
   (br (decide (x1 > (7 : Int)))
    (some false)
    (bindO (l21_0 k (S21_0.mk x0 x1 (0 : Int) (0 : Int))) fun r2998 =>
     bindO (f31 k (E21_0.x1 r2998)) fun r2997 =>
      some (decide (E21_0.x5 r2998 ≥ r2997))))
theorem f21_run (k : Nat) (x0 : Int) (x1 : Int) : cf31 k R21 21 (A21 (x0, x1)) [] 0 (endR planR (.any) [] 0 r21) = f21 k x0 x1 := by kernel_rfl
def g21 (k : Nat) : CallS := entT d21 (fun p => f21 k p.1 p.2) (elAll _) (fun _ => o21) (fun _ => u21) (fun _ => n21)
theorem g21_ok (k : Nat) : CallSOk Tryd.prog 21 (g21 k) := entry_ok (Hp := fun _ => []) (oR := fun _ => o21) (uR := fun _ => u21) (nR := fun _ => n21) (cf31_ok k) d21_ok r21_ok (hel := elAll_ok) (fun p => f21_run k p.1 p.2)
def Dl32 (k : Nat) : Delta := dCons 21 (callAt plan [.any, .any] (g21 k)) (Dl31 k)
def Lm32 (k : Nat) : FuncId → Nat → Option LamF := Lm31 k
theorem Dl32_ok (k : Nat) : DeltaOk Tryd.prog (Dl32 k) := dCons_ok (Dl31_ok k) (g21_ok k)
theorem Lm32_ok (k : Nat) : LamsOk Tryd.prog (Lm32 k) := Lm31_ok k
abbrev cf32 (k : Nat) : CallF := evF Tryd.prog (Dl32 k) (Lm32 k) 200 12
theorem cf32_ok (k : Nat) : CfOk Tryd.prog (cf32 k) := evF_ok noNum mixed (Dl32_ok k) (Lm32_ok k) 12
abbrev P23 := Int × List Int
def A23 (p : P23) : List AV := [.int .i64 p.1, .dsl 3 p.2]
def d23 (a : List AV) (H : Heap) : Option P23 := match a, H with
  | [.int .i64 a0, ba1], [] => (match (dslD 3 ba1 : Option (List Int)) with | some a1 => some (a0, a1) | none => none)
  | _, _ => none
theorem d23_ok (a : List AV) (H : Heap) (p : P23) (h : d23 a H = some p) : a = A23 p ∧ H = [] := by
  unfold d23 at h
  split at h
  · skip
    split at h
    · rename_i q
      have q := dslD_ok q
      subst q
      cases h; exact ⟨rfl, rfl⟩
    · cases h
  · cases h
abbrev R23 := Int
def o23 (r : R23) : AEnd := .ret (.int .i64 r)
def u23 (r : R23) : Heap := []
def n23 (_ : R23) : Nat := 0
def r23 (o : AEnd) (u : Heap) (n : Nat) : Option R23 := match o, u, n with
  | .ret (.int .i64 a0), [], 0 => some (a0)
  | _, _, _ => none
theorem r23_ok (p : P23) (o : AEnd) (u : Heap) (n : Nat) (r : R23) (h : r23 o u n = some r) : o = o23 r ∧ u = u23 r ∧ n = n23 r := by
  unfold r23 at h
  split at h
  · skip
    cases h; exact ⟨rfl, rfl, rfl⟩
  · cases h
structure S23_0 where
  mk ::
  x0 : Int
  x1 : List Int
  x5 : Int
  x6 : Int
def VS23_0 (s : S23_0) : List AV := [.int .i64 s.x0, .dsl 3 s.x1, .int .i64 s.x5, .int .i64 s.x6]
def HS23_0 (s : S23_0) : Heap := []
def dS23_0 (vs : List AV) (H : Heap) : Option S23_0 := match vs, H with
  | [.int .i64 x0, bx1, .int .i64 x5, .int .i64 x6], [] => (match (dslD 3 bx1 : Option (List Int)) with | some x1 => some (⟨x0, x1, x5, x6⟩ : S23_0) | none => none)
  | _, _ => none
theorem dS23_0_ok (vs : List AV) (H : Heap) (s : S23_0) (h : dS23_0 vs H = some s) : vs = VS23_0 s ∧ H = HS23_0 s := by
  unfold dS23_0 at h
  split at h
  · skip
    split at h
    · rename_i q
      have q := dslD_ok q
      subst q
      cases h; exact ⟨rfl, rfl⟩
    · cases h
  · cases h
def tS23_0 : AExit → List (Nat × Kd) := fun x => match x with
  | .normal => [(0, .any), (1, .rd 3), (5, .any), (6, .any)]
  | .exit i => (match i with | 0 => [(5, .any)] | _ => [])
  | .ret => [(4, .any)]
  | _ => []
structure S23_2 where
  mk ::
  x0 : Int
  x1 : List Int
  x5 : Int
  x6 : Int
  x7 : Int
  x8 : Int
def VS23_2 (s : S23_2) : List AV := [.int .i64 s.x0, .dsl 3 s.x1, .int .i64 s.x5, .int .i64 s.x6, .int .i64 s.x7, .int .i64 s.x8]
def HS23_2 (s : S23_2) : Heap := []
def dS23_2 (vs : List AV) (H : Heap) : Option S23_2 := match vs, H with
  | [.int .i64 x0, bx1, .int .i64 x5, .int .i64 x6, .int .i64 x7, .int .i64 x8], [] => (match (dslD 3 bx1 : Option (List Int)) with | some x1 => some (⟨x0, x1, x5, x6, x7, x8⟩ : S23_2) | none => none)
  | _, _ => none
theorem dS23_2_ok (vs : List AV) (H : Heap) (s : S23_2) (h : dS23_2 vs H = some s) : vs = VS23_2 s ∧ H = HS23_2 s := by
  unfold dS23_2 at h
  split at h
  · skip
    split at h
    · rename_i q
      have q := dslD_ok q
      subst q
      cases h; exact ⟨rfl, rfl⟩
    · cases h
  · cases h
def tS23_2 : AExit → List (Nat × Kd) := fun x => match x with
  | .normal => [(0, .any), (1, .rd 3), (5, .any), (6, .any), (7, .any), (8, .any)]
  | .exit i => (match i with | 2 => [(0, .any), (1, .rd 3), (5, .any), (6, .any), (7, .any)] | 0 => [(5, .any)] | 1 => [(0, .any), (1, .rd 3), (5, .any), (6, .any)] | _ => [])
  | .ret => [(4, .any)]
  | _ => []
structure E23_2 where
  mk ::
  x0 : Int
  x1 : List Int
  x5 : Int
  x6 : Int
  x7 : Int
def VE23_2 (s : E23_2) : List AV := [.int .i64 s.x0, .dsl 3 s.x1, .int .i64 s.x5, .int .i64 s.x6, .int .i64 s.x7]
def HE23_2 (s : E23_2) : Heap := []
def dE23_2 (x : AExit) (vs : List AV) (H : Heap) : Option E23_2 := match x, vs, H with
  | .exit 2, [.int .i64 x0, bx1, .int .i64 x5, .int .i64 x6, .int .i64 x7], [] => (match (dslD 3 bx1 : Option (List Int)) with | some x1 => some (⟨x0, x1, x5, x6, x7⟩ : E23_2) | none => none)
  | _, _, _ => none
theorem dE23_2_ok (x : AExit) (vs : List AV) (H : Heap) (s : E23_2) (h : dE23_2 x vs H = some s) : x = .exit 2 ∧ vs = VE23_2 s ∧ H = HE23_2 s := by
  unfold dE23_2 at h
  split at h
  · skip
    split at h
    · rename_i q
      have q := dslD_ok q
      subst q
      cases h; exact ⟨rfl, rfl, rfl⟩
    · cases h
  · cases h
def xE23_2 (_ : E23_2) : AExit := .exit 2
def pS23_2 (k : Nat) (s : S23_2) : Option (S23_2 ⊕ E23_2) :=
  br (decide (S23_2.x8 s < (↑(List.length (S23_2.x1 s)) : Int)))
   (br (decide ((0 : Int) ≤ S23_2.x8 s ∧ S23_2.x8 s < (↑(List.length (S23_2.x1 s)) : Int)))
    (br (decide ((0 : Int) ≤ S23_2.x6 s ∧ S23_2.x6 s < (↑(List.length (S23_2.x1 s)) : Int)))
     (br (decide (List.getD (S23_2.x1 s) (Int.toNat (S23_2.x8 s)) (0 : Int) ≥ List.getD (S23_2.x1 s) (Int.toNat (S23_2.x6 s)) (0 : Int)))
      (some (Sum.inl (S23_2.mk (S23_2.x0 s) (S23_2.x1 s) (S23_2.x5 s) (S23_2.x6 s) (IntKind.wrap IntKind.i64 (S23_2.x7 s + (1 : Int))) (IntKind.wrap IntKind.i64 (S23_2.x8 s + (1 : Int))))))
      (some (Sum.inl (S23_2.mk (S23_2.x0 s) (S23_2.x1 s) (S23_2.x5 s) (S23_2.x6 s) (S23_2.x7 s) (IntKind.wrap IntKind.i64 (S23_2.x8 s + (1 : Int)))))))
     (none))
    (none))
   (some (Sum.inr (E23_2.mk (S23_2.x0 s) (S23_2.x1 s) (S23_2.x5 s) (S23_2.x6 s) (S23_2.x7 s))))
theorem pS23_2_run (k : Nat) (s : S23_2) : evC (S23_2 ⊕ E23_2) Tryd.prog (ntmpsAt Tryd.prog 23) (cf32 k) ((Lm32 k) 23) 200 (loopAt Tryd.prog 23 2) (zipE [(0, .any), (1, .rd 3), (5, .any), (6, .any), (7, .any), (8, .any)] (VS23_2 s)) (HS23_2 s) (List.length (HS23_2 s)) (cutS plan 0 tS23_2 (rndT dS23_2 dE23_2)) = pS23_2 k s := by kernel_rfl
def l23_2 (k : Nat) (s : S23_2) : Option E23_2 := iterT (pS23_2 k) k s
def m23_2 (k : Nat) : LamS := lamT 2 dS23_2 (l23_2 k) (elAll _) tS23_2 xE23_2 VE23_2 HE23_2
theorem loop23_2 : isLoopAt Tryd.prog 23 2 = true := by kernel_rfl
theorem m23_2_ok (k : Nat) : LamSOk Tryd.prog (ntmpsAt Tryd.prog 23) 0 (.block 2 (.loop (loopAt Tryd.prog 23 2))) [(0, .any), (1, .rd 3), (5, .any), (6, .any), (7, .any), (8, .any)] (m23_2 k) := lamT_ok (plan := plan) (kb := 0) (body_run noNum mixed (cf32_ok k) (Lm32_ok k) loop23_2) rfl dS23_2_ok dE23_2_ok (hel := elAll_ok) (pS23_2_run k) k
def Dl33 (k : Nat) : Delta := Dl32 k
def Lm33 (k : Nat) : FuncId → Nat → Option LamF := lCons 23 2 (lamBy plan [23, 24, 25, 26, 29, 30, 31, 32, 33, 34, 35, 36, 37, 38, 39, 7, 27, 28, 8] [(0, .any), (1, .rd 3), (5, .any), (6, .any), (7, .any), (8, .any)] 0 (m23_2 k)) (Lm32 k)
theorem Dl33_ok (k : Nat) : DeltaOk Tryd.prog (Dl33 k) := Dl32_ok k
theorem Lm33_ok (k : Nat) : LamsOk Tryd.prog (Lm33 k) := lCons_ok (Lm32_ok k) loop23_2 (lamBy_ok (m23_2_ok k) (by kernel_rfl))
abbrev cf33 (k : Nat) : CallF := evF Tryd.prog (Dl33 k) (Lm33 k) 200 12
theorem cf33_ok (k : Nat) : CfOk Tryd.prog (cf33 k) := evF_ok noNum mixed (Dl33_ok k) (Lm33_ok k) 12
structure E23_0 where
  mk ::
  x5 : Int
def VE23_0 (s : E23_0) : List AV := [.int .i64 s.x5]
def HE23_0 (s : E23_0) : Heap := []
def dE23_0 (x : AExit) (vs : List AV) (H : Heap) : Option E23_0 := match x, vs, H with
  | .exit 0, [.int .i64 x5], [] => some (⟨x5⟩ : E23_0)
  | _, _, _ => none
theorem dE23_0_ok (x : AExit) (vs : List AV) (H : Heap) (s : E23_0) (h : dE23_0 x vs H = some s) : x = .exit 0 ∧ vs = VE23_0 s ∧ H = HE23_0 s := by
  unfold dE23_0 at h
  split at h
  · skip
    cases h; exact ⟨rfl, rfl, rfl⟩
  · cases h
def xE23_0 (_ : E23_0) : AExit := .exit 0
def pS23_0 (k : Nat) (s : S23_0) : Option (S23_0 ⊕ E23_0) :=
  br (decide (S23_0.x6 s < (↑(List.length (S23_0.x1 s)) : Int)))
   (br (decide (S23_0.x0 s ≥ (1 : Int)))
    (br (decide (S23_0.x0 s ≤ (7 : Int)))
     (bindO (l23_2 k (S23_2.mk (S23_0.x0 s) (S23_0.x1 s) (S23_0.x5 s) (S23_0.x6 s) (0 : Int) (0 : Int))) fun r1500 =>
      bindO (f31 k (E23_2.x0 r1500)) fun r1499 =>
       br (decide (E23_2.x7 r1500 ≥ r1499))
        (br (decide ((0 : Int) ≤ E23_2.x6 r1500 ∧ E23_2.x6 r1500 < (↑(List.length (E23_2.x1 r1500)) : Int)))
         (some (Sum.inl (S23_0.mk (E23_2.x0 r1500) (E23_2.x1 r1500) (Go.Eng.max2 (E23_2.x5 r1500) (List.getD (E23_2.x1 r1500) (Int.toNat (E23_2.x6 r1500)) (0 : Int))) (IntKind.wrap IntKind.i64 (E23_2.x6 r1500 + (1 : Int))))))
         (none))
        (some (Sum.inl (S23_0.mk (E23_2.x0 r1500) (E23_2.x1 r1500) (E23_2.x5 r1500) (IntKind.wrap IntKind.i64 (E23_2.x6 r1500 + (1 : Int)))))))
     (some (Sum.inr (E23_0.mk (S23_0.x5 s)))))
    (some (Sum.inr (E23_0.mk (S23_0.x5 s)))))
   (some (Sum.inr (E23_0.mk (S23_0.x5 s))))
theorem pS23_0_run (k : Nat) (s : S23_0) : evC (S23_0 ⊕ E23_0) Tryd.prog (ntmpsAt Tryd.prog 23) (cf33 k) ((Lm33 k) 23) 200 (loopAt Tryd.prog 23 0) (zipE [(0, .any), (1, .rd 3), (5, .any), (6, .any)] (VS23_0 s)) (HS23_0 s) (List.length (HS23_0 s)) (cutS plan 0 tS23_0 (rndT dS23_0 dE23_0)) = pS23_0 k s := by kernel_rfl
def l23_0 (k : Nat) (s : S23_0) : Option E23_0 := iterT (pS23_0 k) k s
def m23_0 (k : Nat) : LamS := lamT 0 dS23_0 (l23_0 k) (elAll _) tS23_0 xE23_0 VE23_0 HE23_0
theorem loop23_0 : isLoopAt Tryd.prog 23 0 = true := by kernel_rfl
theorem m23_0_ok (k : Nat) : LamSOk Tryd.prog (ntmpsAt Tryd.prog 23) 0 (.block 0 (.loop (loopAt Tryd.prog 23 0))) [(0, .any), (1, .rd 3), (5, .any), (6, .any)] (m23_0 k) := lamT_ok (plan := plan) (kb := 0) (body_run noNum mixed (cf33_ok k) (Lm33_ok k) loop23_0) rfl dS23_0_ok dE23_0_ok (hel := elAll_ok) (pS23_0_run k) k
def Dl34 (k : Nat) : Delta := Dl33 k
def Lm34 (k : Nat) : FuncId → Nat → Option LamF := lCons 23 0 (lamBy plan [9, 10, 11, 12, 13, 14, 15, 16, 17, 18, 19, 20, 7, 8, 23, 24, 25, 26, 29, 30, 31, 32, 33, 34, 35, 36, 37, 38, 39, 7, 27, 28, 8, 40, 41, 42, 43, 44, 45, 46, 47, 48, 49, 5, 21, 22, 6] [(0, .any), (1, .rd 3), (5, .any), (6, .any)] 0 (m23_0 k)) (Lm33 k)
theorem Dl34_ok (k : Nat) : DeltaOk Tryd.prog (Dl34 k) := Dl33_ok k
theorem Lm34_ok (k : Nat) : LamsOk Tryd.prog (Lm34 k) := lCons_ok (Lm33_ok k) loop23_0 (lamBy_ok (m23_0_ok k) (by kernel_rfl))
abbrev cf34 (k : Nat) : CallF := evF Tryd.prog (Dl34 k) (Lm34 k) 200 12
theorem cf34_ok (k : Nat) : CfOk Tryd.prog (cf34 k) := evF_ok noNum mixed (Dl34_ok k) (Lm34_ok k) 12
def f23 (k : Nat) (x0 : Int) (x1 : List Int) : Option R23 :=
  bindO (l23_0 k (S23_0.mk x0 x1 (0 : Int) (0 : Int))) fun r3000 =>
   some (E23_0.x5 r3000)
theorem f23_run (k : Nat) (x0 : Int) (x1 : List Int) : cf34 k R23 23 (A23 (x0, x1)) [] 0 (endR planR (.any) [] 0 r23) = f23 k x0 x1 := by kernel_rfl
def g23 (k : Nat) : CallS := entT d23 (fun p => f23 k p.1 p.2) (elAll _) (fun _ => o23) (fun _ => u23) (fun _ => n23)
theorem g23_ok (k : Nat) : CallSOk Tryd.prog 23 (g23 k) := entry_ok (Hp := fun _ => []) (oR := fun _ => o23) (uR := fun _ => u23) (nR := fun _ => n23) (cf34_ok k) d23_ok r23_ok (hel := elAll_ok) (fun p => f23_run k p.1 p.2)
def Dl35 (k : Nat) : Delta := dCons 23 (callAt plan [.any, .rd 3] (g23 k)) (Dl34 k)
def Lm35 (k : Nat) : FuncId → Nat → Option LamF := Lm34 k
theorem Dl35_ok (k : Nat) : DeltaOk Tryd.prog (Dl35 k) := dCons_ok (Dl34_ok k) (g23_ok k)
theorem Lm35_ok (k : Nat) : LamsOk Tryd.prog (Lm35 k) := Lm34_ok k
abbrev cf35 (k : Nat) : CallF := evF Tryd.prog (Dl35 k) (Lm35 k) 200 12
theorem cf35_ok (k : Nat) : CfOk Tryd.prog (cf35 k) := evF_ok noNum mixed (Dl35_ok k) (Lm35_ok k) 12
abbrev P3 := Int × List Int × Int × Int × List Int × Int
def A3 (p : P3) : List AV := [.int .i64 p.1, .dsl 3 p.2.1, .int .i64 p.2.2.1, .int .i64 p.2.2.2.1, .dsl 3 p.2.2.2.2.1, .int .i64 p.2.2.2.2.2]
def d3 (a : List AV) (H : Heap) : Option P3 := match a, H with
  | [.int .i64 a0, ba1, .int .i64 a2, .int .i64 a3, ba4, .int .i64 a5], [] => (match (dslD 3 ba1 : Option (List Int)) with | some a1 => (match (dslD 3 ba4 : Option (List Int)) with | some a4 => some (a0, a1, a2, a3, a4, a5) | none => none) | none => none)
  | _, _ => none
theorem d3_ok (a : List AV) (H : Heap) (p : P3) (h : d3 a H = some p) : a = A3 p ∧ H = [] := by
  unfold d3 at h
  split at h
  · skip
    split at h
    · rename_i q
      have q := dslD_ok q
      subst q
      split at h
      · rename_i q
        have q := dslD_ok q
        subst q
        cases h; exact ⟨rfl, rfl⟩
      · cases h
    · cases h
  · cases h
abbrev R3 := Bool
def o3 (r : R3) : AEnd := .ret (.bool r)
def u3 (r : R3) : Heap := []
def n3 (_ : R3) : Nat := 0
def r3 (o : AEnd) (u : Heap) (n : Nat) : Option R3 := match o, u, n with
  | .ret (.bool a0), [], 0 => some (a0)
  | _, _, _ => none
theorem r3_ok (p : P3) (o : AEnd) (u : Heap) (n : Nat) (r : R3) (h : r3 o u n = some r) : o = o3 r ∧ u = u3 r ∧ n = n3 r := by
  unfold r3 at h
  split at h
  · skip
    cases h; exact ⟨rfl, rfl, rfl⟩
  · cases h
def f3 (k : Nat) (x0 : Int) (x1 : List Int) (x2 : Int) (x3 : Int) (x4 : List Int) (x5 : Int) : Option R3 :=
  br (decide ((↑(List.length x1) : Int) > (60 : Int)))
   (some true)
   (br (decide ((↑(List.length x4) : Int) > (60 : Int)))
    (some true)
    (bindO (f8 k x1) fun r2998 =>
     bindO (f8 k x4) fun r2997 =>
      bindO (f9 k x5 x3) fun r2996 =>
       bindO (f10 k x5 x3) fun r2995 =>
        bindO (f11 k x0 x1) fun r2994 =>
         bindO (f12 k x0 r2998) fun r2993 =>
          br (r2994 == r2993)
           (bindO (f13 k x0 x2) fun r2992 =>
            bindO (f14 k x0 x2) fun r2991 =>
             br (r2992 == r2991)
              (bindO (f15 k x0) fun r2990 =>
               bindO (f16 k x0) fun r2989 =>
                br (r2990 == r2989)
                 (bindO (f19 k x0) fun r2988 =>
                  bindO (f17 k (bitsOf (setR x0)) r2988) fun r2987 =>
                   bindO (f20 k x0 x3) fun r2986 =>
                    bindO (f21 k x0 x3) fun r2985 =>
                     br (r2986 == r2985)
                      (bindO (f22 k x3 x4) fun r2984 =>
                       bindO (f23 k x3 r2997) fun r2983 =>
                        br (r2984 == r2983)
                         (br (Prod.fst r2996 == Prod.fst r2995)
                          (br r2987
                           (br (Prod.snd r2996 == Prod.snd r2995)
                            (bindO (f17 k x1 r2998) fun r2982 =>
                             br r2982
                              (bindO (f17 k x4 r2997) fun r2981 =>
                               some r2981)
                              (some false))
                            (some false))
                           (some false))
                          (br r2987
                           (some false)
                           (some false)))
                         (br r2987
                          (some false)
                          (some false)))
                      (br r2987
                       (some false)
                       (some false)))
                 (bindO (f20 k x0 x3) fun r2970 =>
                  bindO (f21 k x0 x3) fun r2969 =>
                   br (r2970 == r2969)
                    (bindO (f22 k x3 x4) fun r2968 =>
                     bindO (f23 k x3 r2997) fun r2967 =>
                      br (r2968 == r2967)
                       (br (Prod.fst r2996 == Prod.fst r2995)
                        (some false)
                        (some false))
                       (some false))
                    (some false)))
              (bindO (f20 k x0 x3) fun r2962 =>
               bindO (f21 k x0 x3) fun r2961 =>
                br (r2962 == r2961)
                 (bindO (f22 k x3 x4) fun r2960 =>
                  bindO (f23 k x3 r2997) fun r2959 =>
                   br (r2960 == r2959)
                    (br (Prod.fst r2996 == Prod.fst r2995)
                     (some false)
                     (some false))
                    (some false))
                 (some false)))
           (bindO (f20 k x0 x3) fun r2954 =>
            bindO (f21 k x0 x3) fun r2953 =>
             br (r2954 == r2953)
              (bindO (f22 k x3 x4) fun r2952 =>
               bindO (f23 k x3 r2997) fun r2951 =>
                br (r2952 == r2951)
                 (br (Prod.fst r2996 == Prod.fst r2995)
                  (some false)
                  (some false))
                 (some false))
              (some false))))
theorem f3_run (k : Nat) (x0 : Int) (x1 : List Int) (x2 : Int) (x3 : Int) (x4 : List Int) (x5 : Int) : cf35 k R3 3 (A3 (x0, x1, x2, x3, x4, x5)) [] 0 (endR planR (.any) [] 0 r3) = f3 k x0 x1 x2 x3 x4 x5 := by kernel_rfl
def g3 (k : Nat) : CallS := entT d3 (fun p => f3 k p.1 p.2.1 p.2.2.1 p.2.2.2.1 p.2.2.2.2.1 p.2.2.2.2.2) (elAll _) (fun _ => o3) (fun _ => u3) (fun _ => n3)
theorem g3_ok (k : Nat) : CallSOk Tryd.prog 3 (g3 k) := entry_ok (Hp := fun _ => []) (oR := fun _ => o3) (uR := fun _ => u3) (nR := fun _ => n3) (cf35_ok k) d3_ok r3_ok (hel := elAll_ok) (fun p => f3_run k p.1 p.2.1 p.2.2.1 p.2.2.2.1 p.2.2.2.2.1 p.2.2.2.2.2)
abbrev P4 := Int × List Int × Int
def d4 (a : List AV) (H : Heap) : Option P4 := match a, H with
  | [.int .i64 a0, ba1, .int .i64 a2], [] => (match (dslD 3 ba1 : Option (List Int)) with | some a1 => some (a0, a1, a2) | none => none)
  | _, _ => none
abbrev R4 := Bool
def o4 (r : R4) : AEnd := .ret (.bool r)
def u4 (r : R4) : Heap := []
def n4 (_ : R4) : Nat := 0
def r4 (o : AEnd) (u : Heap) (n : Nat) : Option R4 := match o, u, n with
  | .ret (.bool a0), [], 0 => some (a0)
  | _, _, _ => none
structure S4_0 where
  mk ::
  x0 : Int
  x1 : List Int
  x2 : Int
  x7 : Int
  x8 : Bool
  x9 : Int
  x10 : Int
structure E4_0 where
  mk ::
  x0 : Int
  x1 : List Int
  x2 : Int
  x7 : Int
  x8 : Bool
  x9 : Int
def pS4_0 (k : Nat) (s : S4_0) : Option (S4_0 ⊕ E4_0) :=
  br (decide (S4_0.x10 s ≥ (0 : Int)))
   (br (S4_0.x8 s)
    (br (decide ((0 : Int) ≤ S4_0.x10 s ∧ S4_0.x10 s < (↑(List.length (S4_0.x1 s)) : Int)))
     (bindO (f11 k (S4_0.x9 s) [List.getD (S4_0.x1 s) (Int.toNat (S4_0.x10 s)) (0 : Int)]) fun r1500 =>
      some (Sum.inl (S4_0.mk (S4_0.x0 s) (S4_0.x1 s) (S4_0.x2 s) (S4_0.x7 s) true r1500 (IntKind.wrap IntKind.i64 (S4_0.x10 s - (1 : Int))))))
     (none))
    (br (decide ((0 : Int) ≤ S4_0.x10 s ∧ S4_0.x10 s < (↑(List.length (S4_0.x1 s)) : Int)))
     (br (decide ((0 : Int) ≤ S4_0.x10 s ∧ S4_0.x10 s < (↑(List.length (S4_0.x1 s)) : Int)))
      (bindO (f11 k (S4_0.x9 s) [List.getD (S4_0.x1 s) (Int.toNat (S4_0.x10 s)) (0 : Int)]) fun r1498 =>
       some (Sum.inl (S4_0.mk (S4_0.x0 s) (S4_0.x1 s) (S4_0.x2 s) (S4_0.x7 s) (List.getD (S4_0.x1 s) (Int.toNat (S4_0.x10 s)) (0 : Int) == S4_0.x2 s) r1498 (IntKind.wrap IntKind.i64 (S4_0.x10 s - (1 : Int))))))
      (none))
     (none)))
   (some (Sum.inr (E4_0.mk (S4_0.x0 s) (S4_0.x1 s) (S4_0.x2 s) (S4_0.x7 s) (S4_0.x8 s) (S4_0.x9 s))))
def l4_0 (k : Nat) (s : S4_0) : Option E4_0 := iterT (pS4_0 k) k s
def f4 (k : Nat) (x0 : Int) (x1 : List Int) (x2 : Int) : Option R4 :=
  br (decide ((↑(List.length x1) : Int) > (60 : Int)))
   (some true)
   (bindO (f11 k x0 x1) fun r2999 =>
    bindO (l4_0 k (S4_0.mk x0 x1 x2 r2999 false x0 (IntKind.wrap IntKind.i64 ((↑(List.length x1) : Int) - (1 : Int))))) fun r2998 =>
     bindO (f13 k (E4_0.x7 r2998) (E4_0.x2 r2998)) fun r2997 =>
      bindO (f13 k (E4_0.x0 r2998) (E4_0.x2 r2998)) fun r2996 =>
       br r2996
        (br (r2997 == true)
         (br ((↑(List.length (E4_0.x1 r2998)) : Int) == (0 : Int))
          (bindO (f11 k (E4_0.x7 r2998) (E4_0.x1 r2998)) fun r2995 =>
           br (r2995 == E4_0.x7 r2998)
            (bindO (f11 k (0 : Int) (bitsOf (setR (E4_0.x7 r2998)))) fun r2994 =>
             br (r2994 == E4_0.x7 r2998)
              (bindO (f15 k (E4_0.x7 r2998)) fun r2993 =>
               some (r2993 == (↑(List.length (bitsOf (setR (E4_0.x7 r2998)))) : Int)))
              (some false))
            (some false))
          (br (E4_0.x9 r2998 == E4_0.x7 r2998)
           (bindO (f11 k (E4_0.x7 r2998) (E4_0.x1 r2998)) fun r2989 =>
            br (r2989 == E4_0.x7 r2998)
             (bindO (f11 k (0 : Int) (bitsOf (setR (E4_0.x7 r2998)))) fun r2988 =>
              br (r2988 == E4_0.x7 r2998)
               (bindO (f15 k (E4_0.x7 r2998)) fun r2987 =>
                some (r2987 == (↑(List.length (bitsOf (setR (E4_0.x7 r2998)))) : Int)))
               (some false))
             (some false))
           (some false)))
         (some false))
        (br (E4_0.x8 r2998)
         (br (decide (E4_0.x2 r2998 ≥ (0 : Int)))
          (br (r2997 == decide (E4_0.x2 r2998 ≤ (6 : Int)))
           (br ((↑(List.length (E4_0.x1 r2998)) : Int) == (0 : Int))
            (bindO (f11 k (E4_0.x7 r2998) (E4_0.x1 r2998)) fun r2981 =>
             br (r2981 == E4_0.x7 r2998)
              (bindO (f11 k (0 : Int) (bitsOf (setR (E4_0.x7 r2998)))) fun r2980 =>
               br (r2980 == E4_0.x7 r2998)
                (bindO (f15 k (E4_0.x7 r2998)) fun r2979 =>
                 some (r2979 == (↑(List.length (bitsOf (setR (E4_0.x7 r2998)))) : Int)))
                (some false))
              (some false))
            (br (E4_0.x9 r2998 == E4_0.x7 r2998)
             (bindO (f11 k (E4_0.x7 r2998) (E4_0.x1 r2998)) fun r2975 =>
              br (r2975 == E4_0.x7 r2998)
               (bindO (f11 k (0 : Int) (bitsOf (setR (E4_0.x7 r2998)))) fun r2974 =>
                br (r2974 == E4_0.x7 r2998)
                 (bindO (f15 k (E4_0.x7 r2998)) fun r2973 =>
                  some (r2973 == (↑(List.length (bitsOf (setR (E4_0.x7 r2998)))) : Int)))
                 (some false))
               (some false))
             (some false)))
           (some false))
          (br (r2997 == false)
           (br ((↑(List.length (E4_0.x1 r2998)) : Int) == (0 : Int))
            (bindO (f11 k (E4_0.x7 r2998) (E4_0.x1 r2998)) fun r2967 =>
             br (r2967 == E4_0.x7 r2998)
              (bindO (f11 k (0 : Int) (bitsOf (setR (E4_0.x7 r2998)))) fun r2966 =>
               br (r2966 == E4_0.x7 r2998)
                (bindO (f15 k (E4_0.x7 r2998)) fun r2965 =>
                 some (r2965 == (↑(List.length (bitsOf (setR (E4_0.x7 r2998)))) : Int)))
                (some false))
              (some false))
            (br (E4_0.x9 r2998 == E4_0.x7 r2998)
             (bindO (f11 k (E4_0.x7 r2998) (E4_0.x1 r2998)) fun r2961 =>
              br (r2961 == E4_0.x7 r2998)
               (bindO (f11 k (0 : Int) (bitsOf (setR (E4_0.x7 r2998)))) fun r2960 =>
                br (r2960 == E4_0.x7 r2998)
                 (bindO (f15 k (E4_0.x7 r2998)) fun r2959 =>
                  some (r2959 == (↑(List.length (bitsOf (setR (E4_0.x7 r2998)))) : Int)))
                 (some false))
               (some false))
             (some false)))
           (some false)))
         (br (r2997 == false)
          (br ((↑(List.length (E4_0.x1 r2998)) : Int) == (0 : Int))
           (bindO (f11 k (E4_0.x7 r2998) (E4_0.x1 r2998)) fun r2953 =>
            br (r2953 == E4_0.x7 r2998)
             (bindO (f11 k (0 : Int) (bitsOf (setR (E4_0.x7 r2998)))) fun r2952 =>
              br (r2952 == E4_0.x7 r2998)
               (bindO (f15 k (E4_0.x7 r2998)) fun r2951 =>
                some (r2951 == (↑(List.length (bitsOf (setR (E4_0.x7 r2998)))) : Int)))
               (some false))
             (some false))
           (br (E4_0.x9 r2998 == E4_0.x7 r2998)
            (bindO (f11 k (E4_0.x7 r2998) (E4_0.x1 r2998)) fun r2947 =>
             br (r2947 == E4_0.x7 r2998)
              (bindO (f11 k (0 : Int) (bitsOf (setR (E4_0.x7 r2998)))) fun r2946 =>
               br (r2946 == E4_0.x7 r2998)
                (bindO (f15 k (E4_0.x7 r2998)) fun r2945 =>
                 some (r2945 == (↑(List.length (bitsOf (setR (E4_0.x7 r2998)))) : Int)))
                (some false))
              (some false))
            (some false)))
          (some false))))
def g4 (k : Nat) : CallS := entT d4 (fun p => f4 k p.1 p.2.1 p.2.2) (elAll _) (fun _ => o4) (fun _ => u4) (fun _ => n4)
abbrev P5 := Int × Int × Int
def d5 (a : List AV) (H : Heap) : Option P5 := match a, H with
  | [.int .i64 a0, .int .i64 a1, .int .i64 a2], [] => some (a0, a1, a2)
  | _, _ => none
abbrev R5 := Bool
def o5 (r : R5) : AEnd := .ret (.bool r)
def u5 (r : R5) : Heap := []
def n5 (_ : R5) : Nat := 0
def r5 (o : AEnd) (u : Heap) (n : Nat) : Option R5 := match o, u, n with
  | .ret (.bool a0), [], 0 => some (a0)
  | _, _, _ => none
structure S5_0 where
  mk ::
  x0 : Int
  x1 : Int
  x2 : Int
  x7 : Bool
  x8 : Int
structure E5_0 where
  mk ::
  x0 : Int
  x1 : Int
  x2 : Int
  x7 : Bool
def pS5_0 (k : Nat) (s : S5_0) : Option (S5_0 ⊕ E5_0) :=
  br (decide (S5_0.x8 s < S5_0.x2 s))
   (br (decide (S5_0.x8 s < (7 : Int)))
    (br (S5_0.x7 s)
     (some (Sum.inl (S5_0.mk (S5_0.x0 s) (S5_0.x1 s) (S5_0.x2 s) true (IntKind.wrap IntKind.i64 (S5_0.x8 s + (1 : Int))))))
     (bindO (f13 k (S5_0.x0 s) (S5_0.x8 s)) fun r1499 =>
      br r1499
       (bindO (f13 k (S5_0.x1 s) (S5_0.x8 s)) fun r1498 =>
        some (Sum.inl (S5_0.mk (S5_0.x0 s) (S5_0.x1 s) (S5_0.x2 s) r1498 (IntKind.wrap IntKind.i64 (S5_0.x8 s + (1 : Int))))))
       (some (Sum.inl (S5_0.mk (S5_0.x0 s) (S5_0.x1 s) (S5_0.x2 s) false (IntKind.wrap IntKind.i64 (S5_0.x8 s + (1 : Int))))))))
    (some (Sum.inr (E5_0.mk (S5_0.x0 s) (S5_0.x1 s) (S5_0.x2 s) (S5_0.x7 s)))))
   (some (Sum.inr (E5_0.mk (S5_0.x0 s) (S5_0.x1 s) (S5_0.x2 s) (S5_0.x7 s))))
def l5_0 (k : Nat) (s : S5_0) : Option E5_0 := iterT (pS5_0 k) k s
def f5 (k : Nat) (x0 : Int) (x1 : Int) (x2 : Int) : Option R5 :=
  bindO (l5_0 k (S5_0.mk x0 x1 x2 false (0 : Int))) fun r3000 =>
   bindO (f20 k (E5_0.x0 r3000) (E5_0.x2 r3000)) fun r2999 =>
    br (!r2999)
     (bindO (f20 k (E5_0.x0 r3000) (E5_0.x2 r3000)) fun r2998 =>
      br (!r2998)
       (some true)
       (br (decide (E5_0.x2 r3000 ≥ (1 : Int)))
        (some (decide (E5_0.x2 r3000 ≤ (7 : Int))))
        (some false)))
     (bindO (f20 k (E5_0.x1 r3000) (E5_0.x2 r3000)) fun r2994 =>
      br (!r2994)
       (bindO (f20 k (E5_0.x0 r3000) (E5_0.x2 r3000)) fun r2993 =>
        br (!r2993)
         (some true)
         (br (decide (E5_0.x2 r3000 ≥ (1 : Int)))
          (some (decide (E5_0.x2 r3000 ≤ (7 : Int))))
          (some false)))
       (br (E5_0.x7 r3000)
        (bindO (f20 k (E5_0.x0 r3000) (E5_0.x2 r3000)) fun r2989 =>
         br (!r2989)
          (some true)
          (br (decide (E5_0.x2 r3000 ≥ (1 : Int)))
           (some (decide (E5_0.x2 r3000 ≤ (7 : Int))))
           (some false)))
        (some false)))
def g5 (k : Nat) : CallS := entT d5 (fun p => f5 k p.1 p.2.1 p.2.2) (elAll _) (fun _ => o5) (fun _ => u5) (fun _ => n5)
abbrev P6 := Int × List Int × Int × Int
def d6 (a : List AV) (H : Heap) : Option P6 := match a, H with
  | [.int .i64 a0, ba1, .int .i64 a2, .int .i64 a3], [] => (match (dslD 3 ba1 : Option (List Int)) with | some a1 => some (a0, a1, a2, a3) | none => none)
  | _, _ => none
abbrev R6 := Bool
def o6 (r : R6) : AEnd := .ret (.bool r)
def u6 (r : R6) : Heap := []
def n6 (_ : R6) : Nat := 0
def r6 (o : AEnd) (u : Heap) (n : Nat) : Option R6 := match o, u, n with
  | .ret (.bool a0), [], 0 => some (a0)
  | _, _, _ => none
structure S6_0 where
  mk ::
  x0 : Int
  x1 : List Int
  x2 : Int
  x3 : Int
  x9 : Int
  x10 : Int
  x11 : Int
  x12 : Int
structure E6_0 where
  mk ::
  x0 : Int
  x1 : List Int
  x2 : Int
  x3 : Int
  x9 : Int
  x10 : Int
  x11 : Int
def pS6_0 (k : Nat) (s : S6_0) : Option (S6_0 ⊕ E6_0) :=
  br (decide (S6_0.x12 s < (↑(List.length (S6_0.x1 s)) : Int)))
   (br (decide ((0 : Int) ≤ S6_0.x12 s ∧ S6_0.x12 s < (↑(List.length (S6_0.x1 s)) : Int)))
    (br (decide (List.getD (S6_0.x1 s) (Int.toNat (S6_0.x12 s)) (0 : Int) ≥ S6_0.x9 s))
     (br (decide ((0 : Int) ≤ S6_0.x12 s ∧ S6_0.x12 s < (↑(List.length (S6_0.x1 s)) : Int)))
      (br (decide (List.getD (S6_0.x1 s) (Int.toNat (S6_0.x12 s)) (0 : Int) > S6_0.x9 s))
       (some (Sum.inl (S6_0.mk (S6_0.x0 s) (S6_0.x1 s) (S6_0.x2 s) (S6_0.x3 s) (S6_0.x9 s) (IntKind.wrap IntKind.i64 (S6_0.x10 s + (1 : Int))) (IntKind.wrap IntKind.i64 (S6_0.x11 s + (1 : Int))) (IntKind.wrap IntKind.i64 (S6_0.x12 s + (1 : Int))))))
       (some (Sum.inl (S6_0.mk (S6_0.x0 s) (S6_0.x1 s) (S6_0.x2 s) (S6_0.x3 s) (S6_0.x9 s) (IntKind.wrap IntKind.i64 (S6_0.x10 s + (1 : Int))) (S6_0.x11 s) (IntKind.wrap IntKind.i64 (S6_0.x12 s + (1 : Int)))))))
      (none))
     (br (decide ((0 : Int) ≤ S6_0.x12 s ∧ S6_0.x12 s < (↑(List.length (S6_0.x1 s)) : Int)))
      (br (decide (List.getD (S6_0.x1 s) (Int.toNat (S6_0.x12 s)) (0 : Int) > S6_0.x9 s))
       (some (Sum.inl (S6_0.mk (S6_0.x0 s) (S6_0.x1 s) (S6_0.x2 s) (S6_0.x3 s) (S6_0.x9 s) (S6_0.x10 s) (IntKind.wrap IntKind.i64 (S6_0.x11 s + (1 : Int))) (IntKind.wrap IntKind.i64 (S6_0.x12 s + (1 : Int))))))
       (some (Sum.inl (S6_0.mk (S6_0.x0 s) (S6_0.x1 s) (S6_0.x2 s) (S6_0.x3 s) (S6_0.x9 s) (S6_0.x10 s) (S6_0.x11 s) (IntKind.wrap IntKind.i64 (S6_0.x12 s + (1 : Int)))))))
      (none)))
    (none))
   (some (Sum.inr (E6_0.mk (S6_0.x0 s) (S6_0.x1 s) (S6_0.x2 s) (S6_0.x3 s) (S6_0.x9 s) (S6_0.x10 s) (S6_0.x11 s))))
def l6_0 (k : Nat) (s : S6_0) : Option E6_0 := iterT (pS6_0 k) k s
def f6 (k : Nat) (x0 : Int) (x1 : List Int) (x2 : Int) (x3 : Int) : Option R6 :=
  br (decide ((↑(List.length x1) : Int) > (60 : Int)))
   (some true)
   (bindO (f22 k x0 x1) fun r2999 =>
    br (decide (x0 < (1 : Int)))
     (some (r2999 == (0 : Int)))
     (br (decide (x0 > (7 : Int)))
      (some (r2999 == (0 : Int)))
      (bindO (l6_0 k (S6_0.mk x0 x1 x2 x3 r2999 (0 : Int) (0 : Int) (0 : Int))) fun r2996 =>
       br (decide (E6_0.x9 r2996 < (0 : Int)))
        (some false)
        (br (decide (E6_0.x9 r2996 > (0 : Int)))
         (br (decide (E6_0.x10 r2996 < IntKind.wrap IntKind.i64 (IntKind.wrap IntKind.i64 (Int.tdiv (E6_0.x0 r2996) (2 : Int)) + (1 : Int))))
          (some false)
          (br (decide (E6_0.x11 r2996 ≥ IntKind.wrap IntKind.i64 (IntKind.wrap IntKind.i64 (Int.tdiv (E6_0.x0 r2996) (2 : Int)) + (1 : Int))))
           (some false)
           (br (true && decide (List.length (E6_0.x1 r2996) * (8 : Nat) ≤ (140737488355328 : Nat)))
            (br (true && decide ((List.length (E6_0.x1 r2996) + List.length [E6_0.x3 r2996]) * (8 : Nat) ≤ (140737488355328 : Nat)))
             (bindO (f22 k (E6_0.x0 r2996) (E6_0.x1 r2996 ++ [E6_0.x3 r2996])) fun r2992 =>
              br (decide (r2992 < E6_0.x9 r2996))
               (some false)
               (br (decide (E6_0.x2 r2996 < (0 : Int)))
                (some true)
                (br (decide (E6_0.x2 r2996 ≥ (↑(List.length (E6_0.x1 r2996)) : Int)))
                 (some true)
                 (br (decide ((0 : Int) ≤ E6_0.x2 r2996 ∧ E6_0.x2 r2996 < (↑(List.length (E6_0.x1 r2996)) : Int)))
                  (br (decide (E6_0.x3 r2996 < List.getD (E6_0.x1 r2996) (Int.toNat (E6_0.x2 r2996)) (0 : Int)))
                   (some true)
                   (br (true && decide (List.length (E6_0.x1 r2996) * (8 : Nat) ≤ (140737488355328 : Nat)))
                    (br (decide ((0 : Int) ≤ E6_0.x2 r2996 ∧ E6_0.x2 r2996 < (↑(List.length (E6_0.x1 r2996)) : Int)))
                     (br (true && decide (Int.toNat (E6_0.x2 r2996) < List.length (E6_0.x1 r2996)))
                      (bindO (f22 k (E6_0.x0 r2996) (List.set (E6_0.x1 r2996) (Int.toNat (E6_0.x2 r2996)) (E6_0.x3 r2996))) fun r2987 =>
                       some (decide (r2987 ≥ E6_0.x9 r2996)))
                      (none))
                     (none))
                    (none)))
                  (none)))))
             (none))
            (none))))
         (br (decide (E6_0.x11 r2996 ≥ IntKind.wrap IntKind.i64 (IntKind.wrap IntKind.i64 (Int.tdiv (E6_0.x0 r2996) (2 : Int)) + (1 : Int))))
          (some false)
          (br (true && decide (List.length (E6_0.x1 r2996) * (8 : Nat) ≤ (140737488355328 : Nat)))
           (br (true && decide ((List.length (E6_0.x1 r2996) + List.length [E6_0.x3 r2996]) * (8 : Nat) ≤ (140737488355328 : Nat)))
            (bindO (f22 k (E6_0.x0 r2996) (E6_0.x1 r2996 ++ [E6_0.x3 r2996])) fun r2984 =>
             br (decide (r2984 < E6_0.x9 r2996))
              (some false)
              (br (decide (E6_0.x2 r2996 < (0 : Int)))
               (some true)
               (br (decide (E6_0.x2 r2996 ≥ (↑(List.length (E6_0.x1 r2996)) : Int)))
                (some true)
                (br (decide ((0 : Int) ≤ E6_0.x2 r2996 ∧ E6_0.x2 r2996 < (↑(List.length (E6_0.x1 r2996)) : Int)))
                 (br (decide (E6_0.x3 r2996 < List.getD (E6_0.x1 r2996) (Int.toNat (E6_0.x2 r2996)) (0 : Int)))
                  (some true)
                  (br (true && decide (List.length (E6_0.x1 r2996) * (8 : Nat) ≤ (140737488355328 : Nat)))
                   (br (decide ((0 : Int) ≤ E6_0.x2 r2996 ∧ E6_0.x2 r2996 < (↑(List.length (E6_0.x1 r2996)) : Int)))
                    (br (true && decide (Int.toNat (E6_0.x2 r2996) < List.length (E6_0.x1 r2996)))
                     (bindO (f22 k (E6_0.x0 r2996) (List.set (E6_0.x1 r2996) (Int.toNat (E6_0.x2 r2996)) (E6_0.x3 r2996))) fun r2979 =>
                      some (decide (r2979 ≥ E6_0.x9 r2996)))
                     (none))
                    (none))
                   (none)))
                 (none)))))
            (none))
           (none)))))))
def g6 (k : Nat) : CallS := entT d6 (fun p => f6 k p.1 p.2.1 p.2.2.1 p.2.2.2) (elAll _) (fun _ => o6) (fun _ => u6) (fun _ => n6)
abbrev R7 := Bool
def r7 (o : AEnd) (u : Heap) (n : Nat) : Option R7 := match o, u, n with
  | .ret (.bool a0), [], 0 => some (a0)
  | _, _, _ => none
structure S7_0 where
  mk ::
  x0 : Int
  x1 : Int
  x5 : Int
  x6 : Int
  x7 : Int
structure E7_0 where
  mk ::
  x4 : Bool
structure E7_0b where
  mk ::
  x0 : Int
  x1 : Int
  x5 : Int
  x6 : Int
end
end Go.Proofs.YtdkfkacipbaenaaDoor

end
section
set_option linter.unusedVariables false
set_option linter.unusedSimpArgs false
namespace Go.Proofs.YtdkfkacipbaenaaDoor
open Go Go.Eng
theorem bindO_some {α R : Type} (x : α) (f : α → Option R) : bindO (some x) f = f x := rfl
theorem wrap_ok {n : Int} (h0 : 0 ≤ n) (h1 : n ≤ 9223372036854775807) : IntKind.wrap .i64 n = n := by
  unfold IntKind.wrap
  have hb : IntKind.bits .i64 = 64 := rfl
  have hs : IntKind.signed .i64 = true := rfl
  simp only [hb, hs]
  have : n % (2 ^ 64 : Int) = n := Int.emod_eq_of_lt h0 (by omega)
  rw [this]
  simp
  intro h; omega
theorem iter_to {S E : Type} {stp : S → Option (S ⊕ E)} (st : Nat → S) (m : Nat) {e : E} (h : ∀ i, i < m → stp (st i) = some (.inl (st (i + 1)))) (he : stp (st m) = some (.inr e)) :
    ∀ j, m < j → iterT stp j (st 0) = some e := by
  have key : ∀ (d i j : Nat), i + d = m → d < j → iterT stp j (st i) = some e := by
    intro d
    induction d with
    | zero =>
      intro i j hi hj
      obtain ⟨j, rfl⟩ : ∃ j', j = j' + 1 := ⟨j - 1, by omega⟩
      have : i = m := by omega
      subst this
      simp only [iterT, he]
    | succ d ih =>
      intro i j hi hj
      obtain ⟨j, rfl⟩ : ∃ j', j = j' + 1 := ⟨j - 1, by omega⟩
      simp only [iterT, h i (by omega)]
      exact ih (i + 1) j (by omega) (by omega)
  exact fun j hj => key m 0 j (by omega) hj
theorem lt_len {α : Type} {l : List α} {i : Nat} (h : i < l.length) : decide ((i : Int) < (l.length : Int)) = true := by simp; exact h
theorem in_len {α : Type} {l : List α} {i : Nat} (h : i < l.length) : decide ((0 : Int) ≤ (i : Int) ∧ (i : Int) < (l.length : Int)) = true := by simp; exact h
theorem end_len {α : Type} {l : List α} : decide ((l.length : Int) < (l.length : Int)) = false := by simp
theorem next_ok {i : Nat} (h : i < 1000000) : IntKind.wrap .i64 ((i : Int) + 1) = ((i + 1 : Nat) : Int) := by rw [wrap_ok (by omega) (by omega)]; simp
theorem br_t {R : Type} {b : Bool} (h : b = true) (x y : Option R) : br b x y = x := by rw [h, br_true]
theorem br_f {R : Type} {b : Bool} (h : b = false) (x y : Option R) : br b x y = y := by rw [h, br_false]
theorem take_next {α : Type} [Inhabited α] {l : List α} {i : Nat} (h : i < l.length) : l.take (i + 1) = l.take i ++ [l.getD i default] := by
  rw [List.take_add_one, List.getD_eq_getElem?_getD, List.getElem?_eq_getElem h]
  rfl
end Go.Proofs.YtdkfkacipbaenaaDoor

end
section
set_option linter.unusedVariables false
set_option linter.unusedSimpArgs false
namespace Go.Proofs.YtdkfkacipbaenaaDoor
open Go Go.Eng
def memL (s : Nat) : List Int := ((List.range 7).filter fun i => s.testBit i).map fun (i : Nat) => (i : Int)
theorem bits_memL : ((List.range 128).all fun s => bitsOf s == memL s) = true := by kernel_rfl
theorem bits_eq {s : Nat} (h : s < 128) : bitsOf s = memL s := eq_of_beq (List.all_eq_true.1 bits_memL s (List.mem_range.2 h))
def hasP (x u : Int) : Bool := decide (0 ≤ u ∧ u < 7) && (setR x).testBit u.toNat
def popP (s : Nat) : Nat := ((List.range 7).filter fun i => s.testBit i).length
theorem memL_len (s : Nat) : (memL s).length = popP s := by unfold memL popP; rw [List.length_map]
theorem f26_ok (k : Nat) (x : Int) : f26 k x = some (setR x : Int) := by
  unfold f26 setR
  by_cases h : x < 0
  · rw [br_t (decide_eq_true h), if_pos (.inl h)]; rfl
  · rw [br_f (decide_eq_false h)]
    by_cases h2 : x > 127
    · rw [br_t (decide_eq_true h2), if_pos (.inr h2)]; rfl
    · rw [br_f (decide_eq_false h2), if_neg (by omega)]
      exact congrArg some (Int.toNat_of_nonneg (by omega)).symm
theorem f27_ok (k : Nat) (u : Int) : f27 k u = some (decide (0 ≤ u ∧ u < 7)) := by
  unfold f27
  by_cases h : u ≥ 0
  · rw [br_t (decide_eq_true h)]; congr 1; simp [h]
  · rw [br_f (decide_eq_false h), decide_eq_false (by omega)]
theorem setR_id {s : Nat} (h : s < 128) : setR (s : Int) = s := by unfold setR; rw [if_neg (by omega)]; simp
theorem setR_setR (x : Int) : setR (setR x : Int) = setR x := setR_id (setR_lt x)
theorem has_in : ((List.range 128).all fun s => (List.range 7).all fun u => decide (f13 0 (s : Int) (u : Int) = some (s.testBit u))) = true := by kernel_rfl
theorem f13_set (k : Nat) (x u : Int) : f13 k x u = f13 k (setR x : Int) u := by
  unfold f13
  rw [f26_ok, f26_ok, setR_setR]
theorem f13_ok (k : Nat) (x u : Int) : f13 k x u = some (hasP x u) := by
  by_cases h : 0 ≤ u ∧ u < 7
  · have := List.all_eq_true.1 (List.all_eq_true.1 has_in (setR x) (List.mem_range.2 (setR_lt x))) u.toNat (List.mem_range.2 (by omega))
    have := of_decide_eq_true this
    rw [show ((u.toNat : Nat) : Int) = u by omega] at this
    rw [f13_set, show f13 k (setR x : Int) u = f13 0 (setR x : Int) u from rfl, this]
    unfold hasP
    rw [decide_eq_true h, Bool.true_and]
  · unfold f13 hasP
    rw [f27_ok, decide_eq_false h, bindO_some, br_false, Bool.false_and]
theorem size_in : ((List.range 128).all fun s => decide (f15 0 (s : Int) = some (popP s : Int))) = true := by kernel_rfl
theorem f15_set (k : Nat) (x : Int) : f15 k x = f15 k (setR x : Int) := by
  unfold f15
  rw [f26_ok, f26_ok, setR_setR]
theorem f15_ok (k : Nat) (x : Int) : f15 k x = some (popP (setR x) : Int) := by
  have := of_decide_eq_true (List.all_eq_true.1 size_in (setR x) (List.mem_range.2 (setR_lt x)))
  rw [f15_set, show f15 k (setR x : Int) = f15 0 (setR x : Int) from rfl, this]
def addN (s : Nat) (u : Int) : Nat := if 0 ≤ u ∧ u < 7 then s ||| 2 ^ u.toNat else s
def addL (s : Nat) (l : List Int) : Nat := l.foldl addN s
theorem or_in : ((List.range 128).all fun s => (List.range 7).all fun u => decide ((s ||| 2 ^ u) < 128) && decide (IntKind.wrap IntKind.i64 (↑(BitVec.toNat (BitVec.ofInt (64 : Nat) (s : Int) ||| BitVec.ofInt (64 : Nat) (IntKind.wrap IntKind.i64 ((1 : Int) * (2 : Int) ^ Min.min (Int.toNat (u : Int)) (64 : Nat))))) : Int) = ((s ||| 2 ^ u : Nat) : Int))) = true := by kernel_rfl
theorem addN_lt {s : Nat} (h : s < 128) (u : Int) : addN s u < 128 := by
  unfold addN
  split
  · have := List.all_eq_true.1 (List.all_eq_true.1 or_in s (List.mem_range.2 h)) u.toNat (List.mem_range.2 (by omega))
    simp only [Bool.and_eq_true] at this
    exact of_decide_eq_true this.1
  · exact h
theorem addL_lt : ∀ (l : List Int) {s : Nat}, s < 128 → addL s l < 128
  | [], s, h => h
  | u :: l, s, h => addL_lt l (addN_lt h u)
theorem or_val {s : Nat} (h : s < 128) {u : Int} (hu : 0 ≤ u ∧ u < 7) :
    IntKind.wrap IntKind.i64 (↑(BitVec.toNat (BitVec.ofInt (64 : Nat) (s : Int) ||| BitVec.ofInt (64 : Nat) (IntKind.wrap IntKind.i64 ((1 : Int) * (2 : Int) ^ Min.min (Int.toNat u) (64 : Nat))))) : Int) = ((addN s u : Nat) : Int) := by
  have := List.all_eq_true.1 (List.all_eq_true.1 or_in s (List.mem_range.2 h)) u.toNat (List.mem_range.2 (by omega))
  simp only [Bool.and_eq_true] at this
  have := of_decide_eq_true this.2
  rw [show ((u.toNat : Nat) : Int) = u by omega] at this
  rw [this]
  unfold addN
  rw [if_pos hu]
theorem f11_ok {k : Nat} {l : List Int} (hk : l.length < k) (hl : l.length ≤ 1000) (x : Int) : f11 k x l = some ((addL (setR x) l : Nat) : Int) := by
  have he := iter_to (stp := pS11_0 k) (fun i => S11_0.mk ((addL (setR x) (l.take i) : Nat) : Int) l (l.length : Int) (i : Int)) l.length (e := E11_0.mk ((addL (setR x) l : Nat) : Int))
    (by
      intro i hi
      have hs := addL_lt (l.take i) (setR_lt x)
      have hn : addL (setR x) (l.take (i + 1)) = addN (addL (setR x) (l.take i)) (l.getD i (0 : Int)) := by
        rw [take_next hi]; unfold addL; rw [List.foldl_append]; rfl
      unfold pS11_0
      simp only [lt_len hi, in_len hi, br_true, Int.toNat_natCast]
      rw [f27_ok, bindO_some, next_ok (by omega), hn]
      by_cases hu : 0 ≤ l.getD i (0 : Int) ∧ l.getD i (0 : Int) < 7
      · rw [br_t (decide_eq_true hu), br_t (by simp; exact hu.1), or_val hs hu]
      · rw [br_f (decide_eq_false hu)]
        have : addN (addL (setR x) (l.take i)) (l.getD i (0 : Int)) = addL (setR x) (l.take i) := by unfold addN; rw [if_neg hu]
        rw [this])
    (by unfold pS11_0; simp only [end_len, br_false, List.take_length]) k hk
  unfold f11 l11_0
  have e0 : (((0 : Nat) : Int)) = 0 := rfl
  simp only [e0, List.take_zero] at he
  rw [f26_ok, bindO_some, show ((setR x : Nat) : Int) = ((addL (setR x) [] : Nat) : Int) from rfl, he, bindO_some]
theorem f17_same {k : Nat} {l : List Int} (hk : l.length < k) (hl : l.length ≤ 1000) : f17 k l l = some true := by
  have he := iter_to (stp := pS17_0 k) (fun i => S17_0.mk l l (i : Int)) l.length (e := .inr E17_0b.mk)
    (by
      intro i hi
      unfold pS17_0
      simp only [lt_len hi, in_len hi, br_true, Int.toNat_natCast]
      rw [br_f (by simp), next_ok (by omega)])
    (by unfold pS17_0; simp only [end_len, br_false]) k hk
  unfold f17 l17_0
  have e0 : (((0 : Nat) : Int)) = 0 := rfl
  simp only [e0] at he
  rw [br_f (by simp), he, bindO_some]
def enoughP (x n : Int) : Bool := decide (1 ≤ n ∧ n ≤ 7) && decide (((popP (setR x &&& (2 ^ n.toNat - 1)) : Nat) : Int) ≥ n / 2 + 1)
theorem f25_ok (k : Nat) {n : Int} (h : 1 ≤ n ∧ n ≤ 7) : f25 k n = some (n / 2 + 1, true) := by
  have : n = 1 ∨ n = 2 ∨ n = 3 ∨ n = 4 ∨ n = 5 ∨ n = 6 ∨ n = 7 := by omega
  rcases this with rfl | rfl | rfl | rfl | rfl | rfl | rfl <;> rfl
theorem f25_no (k : Nat) {n : Int} (h : ¬ (1 ≤ n ∧ n ≤ 7)) : ∃ m, f25 k n = some (m, false) := by
  unfold f25
  by_cases h1 : n ≥ 1
  · rw [br_t (decide_eq_true h1), decide_eq_false (by omega)]; exact ⟨_, rfl⟩
  · rw [br_f (decide_eq_false h1)]; exact ⟨_, rfl⟩
theorem enough_in : ((List.range 128).all fun s => (List.range 8).all fun n => n == 0 || decide (f20 0 (s : Int) (n : Int) = some (enoughP (s : Int) (n : Int)))) = true := by kernel_rfl
theorem f20_set (k : Nat) (x n : Int) : f20 k x n = f20 k (setR x : Int) n := by
  unfold f20
  rw [f26_ok, f26_ok, setR_setR]
theorem f20_ok (k : Nat) (x n : Int) : f20 k x n = some (enoughP x n) := by
  by_cases h : 1 ≤ n ∧ n ≤ 7
  · have := List.all_eq_true.1 (List.all_eq_true.1 enough_in (setR x) (List.mem_range.2 (setR_lt x))) n.toNat (List.mem_range.2 (by omega))
    simp only [Bool.or_eq_true, beq_iff_eq] at this
    have := of_decide_eq_true (this.resolve_left (by omega))
    rw [show ((n.toNat : Nat) : Int) = n by omega] at this
    rw [f20_set, show f20 k (setR x : Int) n = f20 0 (setR x : Int) n from rfl, this]
    unfold enoughP
    rw [setR_setR]
  · obtain ⟨m, hm⟩ := f25_no k h
    unfold f20 enoughP
    rw [hm, bindO_some, decide_eq_false h, Bool.false_and]
    rfl
end Go.Proofs.YtdkfkacipbaenaaDoor

end
section
set_option linter.unusedVariables false
set_option linter.unusedSimpArgs false
namespace Go.Proofs.YtdkfkacipbaenaaDoor
open Go Go.Eng
theorem hasP_in (x : Int) {i : Nat} (h : i < 7) : hasP x i = (setR x).testBit i := by
  unfold hasP
  rw [decide_eq_true (by omega), Bool.true_and, Int.toNat_natCast]
end Go.Proofs.YtdkfkacipbaenaaDoor

end
section
set_option linter.unusedVariables false
set_option linter.unusedSimpArgs false
namespace Go.Proofs.YtdkfkacipbaenaaDoor
open Go Go.Eng
theorem memL_short (s : Nat) : (memL s).length ≤ 7 := by
  unfold memL
  rw [List.length_map]
  exact List.length_filter_le ..
end Go.Proofs.YtdkfkacipbaenaaDoor

end
section
set_option linter.unusedVariables false
set_option linter.unusedSimpArgs false
namespace Go.Proofs.YtdkfkacipbaenaaDoor
open Go Go.Eng
end Go.Proofs.YtdkfkacipbaenaaDoor

end
section
set_option linter.unusedVariables false
set_option linter.unusedSimpArgs false
namespace Go.Proofs.YtdkfkacipbaenaaDoor
open Go Go.Eng
def highN (t : Int) (l : List Int) : Nat := l.countP fun v => decide (t ≤ v)
theorem high_sorted (t : Int) : ∀ (s : List Int), s.Pairwise (· ≤ ·) → ∀ i, i < s.length → (t ≤ s.getD i 0 ↔ s.length - i ≤ highN t s)
  | [], _, i, h => by simp at h
  | a :: s, hp, i, h => by
    obtain ⟨h1, h2⟩ := List.pairwise_cons.1 hp
    have hle : highN t s ≤ s.length := List.countP_le_length ..
    have hc : highN t (a :: s) = highN t s + (if t ≤ a then 1 else 0) := by
      unfold highN
      rw [List.countP_cons]
      simp
    rw [hc, List.length_cons]
    have hall : t ≤ a → highN t s = s.length := fun q => List.countP_eq_length.2 fun x hx => decide_eq_true (Int.le_trans q (h1 x hx))
    cases i with
    | zero =>
      show t ≤ a ↔ _
      by_cases q : t ≤ a
      · simp only [q, hall q, if_true]; simp
      · simp only [q, if_false, false_iff]; omega
    | succ j =>
      have hj : j < s.length := by simpa using h
      have ih := high_sorted t s h2 j hj
      show t ≤ s.getD j 0 ↔ _
      by_cases q : t ≤ a
      · rw [hall q, if_pos q] at *
        constructor
        · intro _; omega
        · intro _; exact ih.2 (by omega)
      · rw [if_neg q, ih]; omega
def reachP (n : Int) (l : List Int) : Int := if 1 ≤ n ∧ n ≤ 7 then (if (l.length : Int) < n / 2 + 1 then 0 else max2 ((sortLe l).getD (l.length - (n / 2 + 1).toNat) 0) 0) else 0
theorem f22_ok (k : Nat) (n : Int) {l : List Int} (hl : l.length ≤ 1000) : f22 k n l = some (reachP n l) := by
  unfold f22 reachP
  by_cases hn : 1 ≤ n ∧ n ≤ 7
  · rw [f25_ok k hn, bindO_some, if_pos hn]
    simp only [Bool.not_true, br_false]
    by_cases hm : (l.length : Int) < n / 2 + 1
    · rw [br_t (decide_eq_true hm), if_pos hm]
    · have h32 : f32 k l = some l := by unfold f32; rw [br_t (by simp; omega)]; rfl
      have hs : fSort l = some (sortLe l) := by unfold fSort; rw [br_t (decide_eq_true (by omega))]
      have hlen : (sortLe l).length = l.length := (sortLe_perm l).length_eq
      have hw : IntKind.wrap .i64 ((l.length : Int) - (n / 2 + 1)) = ((l.length - (n / 2 + 1).toNat : Nat) : Int) := by rw [wrap_ok (by omega) (by omega)]; omega
      rw [br_f (decide_eq_false hm), if_neg hm, h32, bindO_some, hs, bindO_some]
      simp only [hlen, hw, Int.toNat_natCast]
      rw [br_t (decide_eq_true (by omega)), br_t (decide_eq_true (by omega))]
  · obtain ⟨m, hm⟩ := f25_no k hn
    rw [hm, bindO_some, if_neg hn]
    rfl
theorem reach_pos (n : Int) (l : List Int) : 0 ≤ reachP n l := by
  unfold reachP
  split
  · split
    · omega
    · rw [max2_eq]; omega
  · omega
theorem reach_iff {n : Int} (hn : 1 ≤ n ∧ n ≤ 7) (l : List Int) {t : Int} (ht : 0 < t) : t ≤ reachP n l ↔ n / 2 + 1 ≤ (highN t l : Int) := by
  have hle : highN t l ≤ l.length := List.countP_le_length ..
  unfold reachP
  rw [if_pos hn]
  split
  · rename_i h
    omega
  · rename_i h
    have hlen : (sortLe l).length = l.length := (sortLe_perm l).length_eq
    have hh : highN t (sortLe l) = highN t l := (sortLe_perm l).countP_eq _
    have := high_sorted t (sortLe l) (sortLe_sorted l) (l.length - (n / 2 + 1).toNat) (by omega)
    rw [hlen, hh] at this
    rw [max2_eq]
    constructor
    · intro q
      have := this.1 (by omega)
      omega
    · intro q
      have := this.2 (by omega)
      omega
theorem tdiv_half {n : Int} (h : 1 ≤ n ∧ n ≤ 7) : IntKind.wrap .i64 (IntKind.wrap .i64 (Int.tdiv n 2) + 1) = n / 2 + 1 := by
  have : n = 1 ∨ n = 2 ∨ n = 3 ∨ n = 4 ∨ n = 5 ∨ n = 6 ∨ n = 7 := by omega
  rcases this with rfl | rfl | rfl | rfl | rfl | rfl | rfl <;> rfl
end Go.Proofs.YtdkfkacipbaenaaDoor

end
section
set_option linter.unusedVariables false
set_option linter.unusedSimpArgs false
namespace Go.Proofs.YtdkfkacipbaenaaDoor
open Go Go.Eng
theorem has2_in : ((List.range 128).all fun s => (List.range 7).all fun u => decide (f14 61 (s : Int) (u : Int) = some (s.testBit u))) = true := by kernel_rfl
theorem f14_ok (x u : Int) : f14 61 x u = some (hasP x u) := by
  by_cases h0 : x < 0
  · unfold f14 hasP
    rw [br_t (decide_eq_true h0), show setR x = 0 by unfold setR; rw [if_pos (.inl h0)], Nat.zero_testBit, Bool.and_false]
  by_cases h1 : x > 127
  · unfold f14 hasP
    rw [br_f (decide_eq_false h0), br_t (decide_eq_true h1), show setR x = 0 by unfold setR; rw [if_pos (.inr h1)], Nat.zero_testBit, Bool.and_false]
  by_cases h : 0 ≤ u ∧ u < 7
  · have := of_decide_eq_true (List.all_eq_true.1 (List.all_eq_true.1 has2_in (setR x) (List.mem_range.2 (setR_lt x))) u.toNat (List.mem_range.2 (by omega)))
    rw [show ((u.toNat : Nat) : Int) = u by omega, show ((setR x : Nat) : Int) = x by unfold setR; rw [if_neg (by omega)]; omega] at this
    rw [this]
    unfold hasP
    rw [decide_eq_true h, Bool.true_and]
  · unfold f14 hasP
    rw [br_f (decide_eq_false h0), br_f (decide_eq_false h1), decide_eq_false h, Bool.false_and]
    by_cases h2 : u < 0
    · rw [br_t (decide_eq_true h2)]
    · rw [br_f (decide_eq_false h2), br_t (decide_eq_true (by omega))]
theorem power_in : ((List.range 7).all fun u => decide (f28 61 (u : Int) = some ((2 ^ u : Nat) : Int))) = true := by kernel_rfl
theorem plus_in : ((List.range 128).all fun s => (List.range 7).all fun u => if s.testBit u then s ||| 2 ^ u == s else s ||| 2 ^ u == s + 2 ^ u) = true := by kernel_rfl
theorem f12_ok {l : List Int} (hl : l.length ≤ 60) (x : Int) : f12 61 x l = some ((addL (setR x) l : Nat) : Int) := by
  have hloop : ∀ s : Nat, s < 128 → l12_0 61 (S12_0.mk (s : Int) l 0) = some (E12_0.mk ((addL s l : Nat) : Int)) := by
    intro s hs0
    have he := iter_to (stp := pS12_0 61) (fun i => S12_0.mk ((addL s (l.take i) : Nat) : Int) l (i : Int)) l.length (e := E12_0.mk ((addL s l : Nat) : Int))
      (by
        intro i hi
        have hs := addL_lt (l.take i) hs0
        have hn : addL s (l.take (i + 1)) = addN (addL s (l.take i)) (l.getD i (0 : Int)) := by
          rw [take_next hi]; unfold addL; rw [List.foldl_append]; rfl
        unfold pS12_0
        simp only [Int.toNat_natCast]
        rw [br_t (lt_len hi), br_t (in_len hi), hn, next_ok (by omega)]
        by_cases h0 : l.getD i (0 : Int) ≥ 0
        · by_cases h1 : l.getD i (0 : Int) ≤ 6
          · have hu : 0 ≤ l.getD i (0 : Int) ∧ l.getD i (0 : Int) < 7 := ⟨h0, by omega⟩
            have hp := of_decide_eq_true (List.all_eq_true.1 power_in (l.getD i (0 : Int)).toNat (List.mem_range.2 (by omega)))
            have hq := List.all_eq_true.1 (List.all_eq_true.1 plus_in (addL s (l.take i)) (List.mem_range.2 hs)) (l.getD i (0 : Int)).toNat (List.mem_range.2 (by omega))
            rw [show (((l.getD i (0 : Int)).toNat : Nat) : Int) = l.getD i (0 : Int) by omega] at hp
            have hlt := addN_lt hs (l.getD i (0 : Int))
            have hh : hasP ((addL s (l.take i) : Nat) : Int) (l.getD i (0 : Int)) = (addL s (l.take i)).testBit (l.getD i (0 : Int)).toNat := by
              unfold hasP; rw [decide_eq_true hu, Bool.true_and, setR_id hs]
            rw [br_t (decide_eq_true h0), br_t (in_len hi), br_t (decide_eq_true h1), br_t (in_len hi), f14_ok, bindO_some, hh, hp, bindO_some]
            unfold addN at hlt ⊢
            rw [if_pos hu] at hlt ⊢
            cases hb : (addL s (l.take i)).testBit (l.getD i (0 : Int)).toNat
            · rw [hb, if_neg (by simp), beq_iff_eq] at hq
              rw [Bool.not_false, br_true, br_t (in_len hi), hq, ← Int.natCast_add, wrap_ok (by omega) (by omega)]
            · rw [hb, if_pos rfl, beq_iff_eq] at hq
              rw [Bool.not_true, br_false, hq]
          · rw [br_t (decide_eq_true h0), br_t (in_len hi), br_f (decide_eq_false h1)]
            unfold addN
            rw [if_neg (by omega)]
        · rw [br_f (decide_eq_false h0)]
          unfold addN
          rw [if_neg (by omega)])
      (by unfold pS12_0; simp only [end_len, br_false, List.take_length]) 61 (by omega)
    exact he
  unfold f12
  by_cases h0 : x < 0
  · have h := hloop 0 (by omega)
    rw [br_t (decide_eq_true h0), show setR x = 0 by unfold setR; rw [if_pos (.inl h0)]]
    rw [show ((0 : Nat) : Int) = 0 from rfl] at h
    rw [h, bindO_some]
  by_cases h1 : x > 127
  · have h := hloop 0 (by omega)
    rw [br_f (decide_eq_false h0), br_t (decide_eq_true h1), show setR x = 0 by unfold setR; rw [if_pos (.inr h1)]]
    rw [show ((0 : Nat) : Int) = 0 from rfl] at h
    rw [h, bindO_some]
  · have h := hloop (setR x) (setR_lt x)
    have e : ((setR x : Nat) : Int) = x := by unfold setR; rw [if_neg (by omega)]; omega
    rw [br_f (decide_eq_false h0), br_f (decide_eq_false h1)]
    rw [e] at h
    rw [h, bindO_some]
theorem f19_ok (x : Int) : f19 61 x = some (memL (setR x)) := by
  have he := iter_to (stp := pS19_0 61) (fun i => S19_0.mk x (i : Int) (((List.range i).filter fun j => (setR x).testBit j).map fun (j : Nat) => (j : Int))) 7 (e := E19_0.mk (memL (setR x)))
    (by
      intro i hi
      have hc : ((List.range i).filter fun j => (setR x).testBit j).length ≤ i := Nat.le_trans (List.length_filter_le ..) (by rw [List.length_range]; omega)
      unfold pS19_0
      simp only
      rw [br_t (decide_eq_true (by omega)), f14_ok, bindO_some, hasP_in x hi, next_ok (by omega), List.range_succ, List.filter_append, List.map_append]
      cases hb : (setR x).testBit i
      · rw [br_false]
        simp [hb]
      · rw [br_true, br_t (by rw [Bool.true_and]; exact decide_eq_true (by simp; omega))]
        simp [hb])
    (by
      unfold pS19_0
      simp only
      rw [br_f (decide_eq_false (by omega))]
      rfl) 61 (by omega)
  unfold f19 l19_0
  rw [show S19_0.mk x (0 : Int) [] = S19_0.mk x ((0 : Nat) : Int) (((List.range 0).filter fun j => (setR x).testBit j).map fun (j : Nat) => (j : Int)) from rfl, he, bindO_some]
theorem f16_ok (x : Int) : f16 61 x = some (popP (setR x) : Int) := by
  unfold f16
  rw [f19_ok, bindO_some, memL_len]
theorem count_in : ((List.range 128).all fun s => (List.range 8).all fun n => popP (s &&& (2 ^ n - 1)) == (List.range n).countP fun j => s.testBit j) = true := by kernel_rfl
theorem f21_ok (x n : Int) : f21 61 x n = some (enoughP x n) := by
  unfold f21
  by_cases h1 : n < 1
  · rw [br_t (decide_eq_true h1)]
    unfold enoughP
    rw [decide_eq_false (by omega), Bool.false_and]
  by_cases h7 : n > 7
  · rw [br_f (decide_eq_false h1), br_t (decide_eq_true h7)]
    unfold enoughP
    rw [decide_eq_false (by omega), Bool.false_and]
  have hn : 1 ≤ n ∧ n ≤ 7 := by omega
  have he := iter_to (stp := pS21_0 61) (fun i => S21_0.mk x n (((List.range i).countP fun j => (setR x).testBit j : Nat) : Int) (i : Int)) n.toNat (e := E21_0.mk n (((List.range n.toNat).countP fun j => (setR x).testBit j : Nat) : Int))
    (by
      intro i hi
      have hc : ((List.range i).countP fun j => (setR x).testBit j) ≤ i := Nat.le_trans (List.countP_le_length ..) (by rw [List.length_range]; omega)
      unfold pS21_0
      simp only
      rw [br_t (decide_eq_true (by omega)), f14_ok, bindO_some, hasP_in x (by omega), next_ok (by omega), next_ok (by omega), List.range_succ, List.countP_append, List.countP_singleton]
      cases (setR x).testBit i <;> rfl)
    (by
      unfold pS21_0
      simp only
      rw [br_f (decide_eq_false (by omega))]) 61 (by omega)
  rw [br_f (decide_eq_false h1), br_f (decide_eq_false h7)]
  unfold l21_0
  rw [show S21_0.mk x n (0 : Int) (0 : Int) = S21_0.mk x n (((List.range 0).countP fun j => (setR x).testBit j : Nat) : Int) ((0 : Nat) : Int) from rfl, he, bindO_some]
  unfold f31
  simp only [bindO_some]
  rw [tdiv_half hn]
  have hc := List.all_eq_true.1 (List.all_eq_true.1 count_in (setR x) (List.mem_range.2 (setR_lt x))) n.toNat (List.mem_range.2 (by omega))
  rw [beq_iff_eq] at hc
  unfold enoughP
  rw [decide_eq_true hn, Bool.true_and, hc]
def bestP (n : Int) (l pre : List Int) : Int := pre.foldl (fun b v => if n / 2 + 1 ≤ (highN v l : Int) then max2 b v else b) 0
theorem bestP_next (n : Int) (l pre : List Int) (v : Int) : bestP n l (pre ++ [v]) = if n / 2 + 1 ≤ (highN v l : Int) then max2 (bestP n l pre) v else bestP n l pre := by
  unfold bestP
  rw [List.foldl_append]
  rfl
theorem best_le (n : Int) (l : List Int) (c : Int) : ∀ (pre : List Int) (b : Int), b ≤ c → (∀ v ∈ pre, n / 2 + 1 ≤ (highN v l : Int) → v ≤ c) → pre.foldl (fun b v => if n / 2 + 1 ≤ (highN v l : Int) then max2 b v else b) b ≤ c
  | [], b, h, _ => h
  | v :: pre, b, h, hv => by
    refine best_le n l c pre _ ?_ (fun u hu => hv u (List.mem_cons_of_mem _ hu))
    dsimp only
    split
    · rename_i q
      have := hv v (List.mem_cons_self ..) q
      rw [max2_eq]
      omega
    · exact h
theorem best_ge (n : Int) (l : List Int) : ∀ (pre : List Int) (b : Int), b ≤ pre.foldl (fun b v => if n / 2 + 1 ≤ (highN v l : Int) then max2 b v else b) b ∧ (∀ v ∈ pre, n / 2 + 1 ≤ (highN v l : Int) → v ≤ pre.foldl (fun b v => if n / 2 + 1 ≤ (highN v l : Int) then max2 b v else b) b)
  | [], b => ⟨Int.le_refl _, by simp⟩
  | v :: pre, b => by
    obtain ⟨h1, h2⟩ := best_ge n l pre (if n / 2 + 1 ≤ (highN v l : Int) then max2 b v else b)
    have hb : b ≤ (if n / 2 + 1 ≤ (highN v l : Int) then max2 b v else b) := by
      split
      · rw [max2_eq]; omega
      · exact Int.le_refl _
    refine ⟨Int.le_trans hb h1, fun u hu q => ?_⟩
    rcases List.mem_cons.1 hu with rfl | hu
    · refine Int.le_trans ?_ h1
      rw [if_pos q, max2_eq]
      omega
    · exact h2 u hu q
theorem reach_in {n : Int} {l : List Int} (h : 0 < reachP n l) : reachP n l ∈ l := by
  unfold reachP at h ⊢
  split at h
  · rename_i hn
    split at h
    · omega
    · rename_i hm
      rw [if_pos hn, if_neg hm]
      have hlen : (sortLe l).length = l.length := (sortLe_perm l).length_eq
      have hi : l.length - (n / 2 + 1).toNat < (sortLe l).length := by omega
      have e : (sortLe l).getD (l.length - (n / 2 + 1).toNat) 0 = (sortLe l)[l.length - (n / 2 + 1).toNat] := by rw [List.getD_eq_getElem?_getD, List.getElem?_eq_getElem hi]; rfl
      rw [max2_eq, e] at h ⊢
      have : max (sortLe l)[l.length - (n / 2 + 1).toNat] 0 = (sortLe l)[l.length - (n / 2 + 1).toNat] := by omega
      rw [this]
      exact (sortLe_perm l).mem_iff.1 (List.getElem_mem hi)
  · omega
theorem best_reach {n : Int} (hn : 1 ≤ n ∧ n ≤ 7) (l : List Int) : bestP n l l = reachP n l := by
  have h0 := reach_pos n l
  obtain ⟨g1, g2⟩ := best_ge n l l 0
  have a : bestP n l l ≤ reachP n l := best_le n l _ l 0 h0 fun v hv q => by
    by_cases h : 0 < v
    · exact (reach_iff hn l h).2 q
    · omega
  have b : reachP n l ≤ bestP n l l := by
    by_cases h : 0 < reachP n l
    · exact g2 _ (reach_in h) ((reach_iff hn l h).1 (Int.le_refl _))
    · have : 0 ≤ bestP n l l := g1
      omega
  omega
theorem l23_2_ok {l : List Int} (hl : l.length ≤ 60) (n b : Int) {i : Nat} (hi : i < l.length) : l23_2 61 (S23_2.mk n l b (i : Int) 0 0) = some (E23_2.mk n l b (i : Int) (highN (l.getD i (0 : Int)) l : Int)) := by
  have he := iter_to (stp := pS23_2 61) (fun j => S23_2.mk n l b (i : Int) (highN (l.getD i (0 : Int)) (l.take j) : Int) (j : Int)) l.length (e := E23_2.mk n l b (i : Int) (highN (l.getD i (0 : Int)) l : Int))
    (by
      intro j hj
      have hc : highN (l.getD i (0 : Int)) (l.take (j + 1)) = highN (l.getD i (0 : Int)) (l.take j) + (if l.getD i (0 : Int) ≤ l.getD j (0 : Int) then 1 else 0) := by
        unfold highN
        rw [take_next hj, List.countP_append, List.countP_singleton]
        have : l.getD j default = l.getD j (0 : Int) := rfl
        rw [this]
        simp
      have hb : highN (l.getD i (0 : Int)) (l.take j) ≤ 60 := Nat.le_trans (List.countP_le_length ..) (by rw [List.length_take]; omega)
      unfold pS23_2
      simp only [Int.toNat_natCast]
      rw [br_t (lt_len hj), br_t (in_len hj), br_t (in_len hi), hc, next_ok (by omega), next_ok (by omega)]
      by_cases q : l.getD i (0 : Int) ≤ l.getD j (0 : Int)
      · rw [br_t (decide_eq_true q), if_pos q]
      · rw [br_f (decide_eq_false q), if_neg q]
        rfl)
    (by
      unfold pS23_2
      simp only
      rw [br_f end_len, List.take_length]) 61 (by omega)
  exact he
theorem f23_ok {l : List Int} (hl : l.length ≤ 60) (n : Int) : f23 61 n l = some (reachP n l) := by
  unfold f23 l23_0
  by_cases hn : 1 ≤ n ∧ n ≤ 7
  · have he := iter_to (stp := pS23_0 61) (fun i => S23_0.mk n l (bestP n l (l.take i)) (i : Int)) l.length (e := E23_0.mk (reachP n l))
      (by
        intro i hi
        have hc : bestP n l (l.take (i + 1)) = if n / 2 + 1 ≤ (highN (l.getD i (0 : Int)) l : Int) then max2 (bestP n l (l.take i)) (l.getD i (0 : Int)) else bestP n l (l.take i) := by
          rw [take_next hi, bestP_next]
          rfl
        unfold pS23_0
        simp only
        rw [br_t (lt_len hi), br_t (decide_eq_true hn.1), br_t (decide_eq_true hn.2), l23_2_ok hl n _ hi, bindO_some]
        unfold f31
        simp only [bindO_some]
        rw [tdiv_half hn, next_ok (by omega), hc]
        by_cases q : n / 2 + 1 ≤ (highN (l.getD i (0 : Int)) l : Int)
        · rw [br_t (decide_eq_true q), br_t (in_len hi), if_pos q]
          rfl
        · rw [br_f (decide_eq_false q), if_neg q])
      (by
        unfold pS23_0
        simp only
        rw [br_f end_len, List.take_length, best_reach hn]) 61 (by omega)
    rw [show S23_0.mk n l (0 : Int) (0 : Int) = S23_0.mk n l (bestP n l (l.take 0)) ((0 : Nat) : Int) from rfl, he, bindO_some]
  · have : reachP n l = 0 := by unfold reachP; rw [if_neg hn]
    rw [this]
    have e : pS23_0 61 (S23_0.mk n l 0 0) = some (.inr (E23_0.mk 0)) := by
      unfold pS23_0
      simp only
      by_cases h : (0 : Int) < (l.length : Int)
      · rw [br_t (decide_eq_true h)]
        by_cases h1 : n ≥ 1
        · rw [br_t (decide_eq_true h1), br_f (decide_eq_false (by omega))]
        · rw [br_f (decide_eq_false h1)]
      · rw [br_f (decide_eq_false h)]
    simp only [iterT, e, bindO_some]
theorem lead_same (k : Nat) (x n : Int) : ∃ r, f9 k x n = some r ∧ f10 k x n = some r := by
  unfold f9 f10
  by_cases hn : 1 ≤ n ∧ n ≤ 7
  · rw [f25_ok k hn, bindO_some]
    simp only [Bool.not_true, br_false]
    by_cases h0 : x < 0
    · rw [br_t (decide_eq_true h0), br_t (decide_eq_true h0)]
      exact ⟨_, rfl, rfl⟩
    · rw [br_f (decide_eq_false h0), br_f (decide_eq_false h0), br_f (decide_eq_false (by omega)), br_f (decide_eq_false (by omega))]
      have : (!n == (0 : Int)) = true := by simp; omega
      rw [br_t this]
      exact ⟨_, rfl, rfl⟩
  · obtain ⟨m, hm⟩ := f25_no k hn
    rw [hm, bindO_some]
    refine ⟨((0 : Int), false), rfl, ?_⟩
    by_cases h0 : x < 0
    · rw [br_t (decide_eq_true h0)]
    · rw [br_f (decide_eq_false h0)]
      by_cases h1 : n < 1
      · rw [br_t (decide_eq_true h1)]
      · rw [br_f (decide_eq_false h1), br_t (decide_eq_true (by omega))]
theorem beq_self' {α : Type} [BEq α] [ReflBEq α] (a : α) : (a == a) = true := BEq.rfl
theorem tallyDoes_true (x0 : Int) (x1 : List Int) (x2 x3 : Int) (x4 : List Int) (x5 : Int) : ∃ k, f3 k x0 x1 x2 x3 x4 x5 = some true := by
  refine ⟨61, ?_⟩
  unfold f3
  by_cases hl : (x1.length : Int) > 60
  · rw [br_t (decide_eq_true hl)]
  by_cases hl4 : (x4.length : Int) > 60
  · rw [br_f (decide_eq_false hl), br_t (decide_eq_true hl4)]
  rw [br_f (decide_eq_false hl), br_f (decide_eq_false hl4)]
  have h8 : ∀ l : List Int, l.length ≤ 60 → f8 61 l = some l := fun l h => by unfold f8; rw [br_t (by rw [Bool.true_and]; exact decide_eq_true (by omega))]
  obtain ⟨r, e9, e10⟩ := lead_same 61 x5 x3
  have hb := memL_short (setR x0)
  rw [h8 _ (by omega), bindO_some, h8 _ (by omega), bindO_some, e9, bindO_some, e10, bindO_some, f11_ok (by omega) (by omega), bindO_some, f12_ok (by omega), bindO_some, br_t (beq_self' _)]
  rw [f13_ok, bindO_some, f14_ok, bindO_some, br_t (beq_self' _), f15_ok, bindO_some, f16_ok, bindO_some, br_t (beq_self' _)]
  rw [f19_ok, bindO_some, bits_eq (setR_lt x0), f17_same (by omega) (by omega), bindO_some, f20_ok, bindO_some, f21_ok, bindO_some, br_t (beq_self' _), f22_ok _ _ (by omega), bindO_some, f23_ok (by omega), bindO_some, br_t (beq_self' _), br_t (beq_self' _), br_true, br_t (beq_self' _)]
  rw [f17_same (by omega) (by omega), bindO_some, br_true, f17_same (by omega) (by omega), bindO_some]
theorem tallyDoes_pure (x0 : Int) (x1 : List Int) (x2 : Int) (x3 : Int) (x4 : List Int) (x5 : Int) (g0 : (Lit.int .i64 x0).wf = true) (g1 : x1.length ≤ maxLen ∧ ∀ x2 ∈ x1, (Lit.int .i64 x2).wf = true) (g2 : (Lit.int .i64 x2).wf = true) (g3 : (Lit.int .i64 x3).wf = true) (g4 : x4.length ≤ maxLen ∧ ∀ x5 ∈ x4, (Lit.int .i64 x5).wf = true) (g5 : (Lit.int .i64 x5).wf = true) : ∃ k, f3 k x0 x1 x2 x3 x4 x5 = some true := tallyDoes_true x0 x1 x2 x3 x4 x5
end Go.Proofs.YtdkfkacipbaenaaDoor

end
section
set_option linter.unusedVariables false
namespace Go.Proofs.YtdkfkacipbaenaaDoor
open Go.ChangeShapes Go.WideShapes Go.ChangeAt Go.WideMaps Go.WideElems Go.RowKit Go.Proofs
def laidL {H : Type} : List (String × DataW H) := [("math/bits.deBruijn32tab", Rows.laid_math_bits_deBruijn32tab), ("math/bits.deBruijn64tab", Rows.laid_math_bits_deBruijn64tab)]
theorem g64 : Tryd.prog.globalNamed "math/bits.deBruijn64tab" = some 1 := by kernel_rfl
theorem t64 : (Tryd.prog.globals[1]?).map (·.type) = some 58 := by kernel_rfl
theorem c5 : Tryd.prog.cellsOf 5 = 1 := by kernel_rfl
theorem door_met (os : Os) (args : Array Value) : laidMetH Tryd.prog laidL ((World.doorLaid Tryd.prog 400 os).forCall (fun _ _ => 0) ⟨#[], args, []⟩).memory :=
  laidMetH_of_parts3 (fuel := 8) (laidMet_of_run' 8 (by kernel_rfl) (by kernel_rfl)) (by kernel_rfl) (by kernel_rfl)
theorem laid_tab {H : Type} : (Rows.laid_math_bits_deBruijn64tab : DataW H) = .agg (Lib.deBruijn64tab.map fun (k : Nat) => DataW.lit (.int .u8 (k : Int))) := by
  unfold Rows.laid_math_bits_deBruijn64tab Lib.deBruijn64tab
  rfl
theorem of_laid {W : World} (h : laidMetH Tryd.prog laidL W) : gpS W := by
  rw [MakeChecks.laidMetH_plain _ _ _ (by kernel_rfl)] at h
  obtain ⟨ps, ⟨g0, t0, cs0, f0, p0, q0, hg0, ht0, hv0, hd0, ⟨g1, t1, cs1, f1, p1, q1, hg1, ht1, hv1, hd1, _, _⟩, _⟩, _, _⟩ := h
  obtain rfl := Option.some.inj (g64.symm.trans hg1)
  obtain rfl := Option.some.inj (t64.symm.trans ht1)
  obtain ⟨xs, m, rfl, hx, hlen, hn, hel⟩ := DataW.trod_array Tryd.underlying58 hd1
  rw [laid_tab] at hx
  simp only [Prod.mk.injEq, DataW.agg.injEq] at hx
  intro j hj
  have hj64 : j < 64 := hj
  have hcell := World.var?_cell hg1 hv1 j
  have e := hel j hj64
  rw [List.getElem?_eq_getElem (by omega)] at e
  obtain ⟨k, e1, e2, _⟩ := DataW.trod_int Tryd.underlying5 e
  rw [c5, Nat.mul_one] at e1
  have h2 := congrArg (·[0]?) e1
  simp only [List.getElem?_take_of_lt (Nat.zero_lt_one), List.getElem?_drop, List.getElem?_cons_zero, Nat.add_zero] at h2
  have h3 := congrArg (·[j]?) hx.1
  simp only [List.getElem?_map, List.getElem?_eq_getElem (show j < xs.length by omega), List.getElem?_eq_getElem (l := Lib.deBruijn64tab) hj, Option.map_some, e2] at h3
  have h4 : ((Lib.deBruijn64tab[j] : Nat) : Int) = k := by
    have := Option.some.inj h3
    injection this with this
    injection this
  rw [hcell, ← Array.getElem?_toList, h2, ← h4]
  rw [List.getD_eq_getElem?_getD, List.getElem?_eq_getElem hj]
  rfl
end Go.Proofs.YtdkfkacipbaenaaDoor

end
section
set_option linter.unusedVariables false
namespace Go.Proofs.YtdkfkacipbaenaaDoor.tallyDoes
open Go.Eng Go.Proofs.YtdkfkacipbaenaaDoor
open Go.ChangeShapes Go.WideShapes Go.ChangeAt Go.RowKit
open Go.ChangeMaps (open_string shut_string)
theorem own : ownKnob Tryd.prog.godebug = none := by kernel_rfl
theorem laidOut : laidOutB Tryd.prog = true := by kernel_rfl
theorem rd3 {H : Type} {enc : TypeId × Value → H} {W : World} : RdL enc Tryd.prog W (fun x : Int => [.int .i64 x]) 3 (fun x => (Lit.int .i64 x).wf = true) := RdL.int Tryd.underlying3
theorem rd22 {H : Type} {enc : TypeId × Value → H} {W : World} : RdL enc Tryd.prog W (fun x : List Int => [.dsl 3 x]) 22 (fun x => x.length ≤ maxLen ∧ ∀ x0 ∈ x, (Lit.int .i64 x0).wf = true) := RdL.slice Tryd.underlying22 (by kernel_rfl) (RdL.iso rd3 (fun x => x) (fun _ => rfl) (fun _ h => h))
set_option maxRecDepth 100000 in
theorem lifted (os : Os) (started : os.Started) (H : Type) (enc : TypeId × Value → H) :
    ReturnsInHanded {} Tryd.checked os 3 .any (fun w args => (Rows.tallyDoesSpec.pre enc Tryd.prog Tryd.f3 [] false w args ∧ laidMetH Tryd.prog laidL w) ∧ sizedMet enc Tryd.prog Tryd.f3 (OpenSpec.ofChange Rows.tallyDoesSpec) false w args) (Rows.tallyDoesSpec.post enc Tryd.prog Tryd.f3 false true false false) := by
  refine returnsInHanded_of_change_and (C := Tryd.checked) (X := fun w _ => laidMetH Tryd.prog laidL w) (fun _ _ _ hh h => h.of_heap hh) own started (by kernel_rfl) Tryd.func3
    (ChangeSpec.witness_shaped (enc := enc) (C := Tryd.checked) (os := os) (X := fun w _ => laidMetH Tryd.prog laidL w) false (World.doorLaid Tryd.prog 400 os) #[.int .i64 0, .slice none 0 0, .int .i64 0, .int .i64 0, .slice none 0 0, .int .i64 0] 8 rfl (World.shaped_of_RefB (by kernel_rfl) (by kernel_rfl)) (by kernel_rfl) (by kernel_rfl) (by kernel_rfl) (door_met os _)) ?_
  intro W base args ds gs before hval0 hW hcnd hsz0 hL _
  have hval : ∀ (j : Nat) t v, Tryd.f3.params[j]? = some t → args[j]? = some v → Value.okWide Tryd.prog W .any base t v := hval0
  have hW' := hW
  obtain ⟨p, q, hA0, hV, rfl, hfz, hnd⟩ := hW
  have hA : DataW.TrodAll enc Tryd.prog W 0 (fun _ => true) true Tryd.f3.params.toList args.toList ds p := hA0
  rw [Tryd.params3] at hA hval
  obtain ⟨v0, vs0, d0, ds0, p0, q0, hargs, rfl, rfl, h0, r0⟩ := trodAll_cons hA
  obtain ⟨v1, vs1, d1, ds1, p1, q1, rfl, rfl, rfl, h1, r1⟩ := trodAll_cons r0
  obtain ⟨v2, vs2, d2, ds2, p2, q2, rfl, rfl, rfl, h2, r2⟩ := trodAll_cons r1
  obtain ⟨v3, vs3, d3, ds3, p3, q3, rfl, rfl, rfl, h3, r3⟩ := trodAll_cons r2
  obtain ⟨v4, vs4, d4, ds4, p4, q4, rfl, rfl, rfl, h4, r4⟩ := trodAll_cons r3
  obtain ⟨v5, vs5, d5, ds5, p5, q5, rfl, rfl, rfl, h5, r5⟩ := trodAll_cons r4
  obtain ⟨rfl, rfl, rfl⟩ := trodAll_nil r5
  obtain rfl : args = #[v0, v1, v2, v3, v4, v5] := by cases args; simp_all
  obtain ⟨rfl, rfl⟩ := trodVars_none hV
  have k0 := h0
  have lt0 : ∀ x ∈ p0, x.block < W.heap.size := by obtain ⟨m, hm⟩ := k0; exact DataW.trod_lt m _ _ _ hm
  obtain ⟨a0, rfl, rfl, rfl, g0⟩ := open_int Tryd.underlying3 (hval 0 3 v0 rfl rfl) h0
  have e0 : rel0 W (.int .i64 a0) (.int .i64 a0) := .int _ _
  have k1 := h1
  have lt1 : ∀ x ∈ p1, x.block < W.heap.size := by obtain ⟨m, hm⟩ := k1; exact DataW.trod_lt m _ _ _ hm
  obtain ⟨sa1, sl1, sc1, rfl⟩ := okWide_slice Tryd.underlying22 (hval 1 22 v1 rfl rfl)
  obtain ⟨a1, g1, c1⟩ := rd22 _ (Read.of h1) (by simp [Value.cells]; kernel_rfl)
  have e1 := (c1.2 0 _ _ rfl rfl).2
  have k2 := h2
  have lt2 : ∀ x ∈ p2, x.block < W.heap.size := by obtain ⟨m, hm⟩ := k2; exact DataW.trod_lt m _ _ _ hm
  obtain ⟨a2, rfl, rfl, rfl, g2⟩ := open_int Tryd.underlying3 (hval 2 3 v2 rfl rfl) h2
  have e2 : rel0 W (.int .i64 a2) (.int .i64 a2) := .int _ _
  have k3 := h3
  have lt3 : ∀ x ∈ p3, x.block < W.heap.size := by obtain ⟨m, hm⟩ := k3; exact DataW.trod_lt m _ _ _ hm
  obtain ⟨a3, rfl, rfl, rfl, g3⟩ := open_int Tryd.underlying3 (hval 3 3 v3 rfl rfl) h3
  have e3 : rel0 W (.int .i64 a3) (.int .i64 a3) := .int _ _
  have k4 := h4
  have lt4 : ∀ x ∈ p4, x.block < W.heap.size := by obtain ⟨m, hm⟩ := k4; exact DataW.trod_lt m _ _ _ hm
  obtain ⟨sa4, sl4, sc4, rfl⟩ := okWide_slice Tryd.underlying22 (hval 4 22 v4 rfl rfl)
  obtain ⟨a4, g4, c4⟩ := rd22 _ (Read.of h4) (by simp [Value.cells]; kernel_rfl)
  have e4 := (c4.2 0 _ _ rfl rfl).2
  have k5 := h5
  have lt5 : ∀ x ∈ p5, x.block < W.heap.size := by obtain ⟨m, hm⟩ := k5; exact DataW.trod_lt m _ _ _ hm
  obtain ⟨a5, rfl, rfl, rfl, g5⟩ := open_int Tryd.underlying3 (hval 5 3 v5 rfl rfl) h5
  have e5 : rel0 W (.int .i64 a5) (.int .i64 a5) := .int _ _
  clear hA0 hval0 hsz0
  obtain ⟨k, hk⟩ := tallyDoes_pure a0 a1 a2 a3 a4 a5 g0 g1 g2 g3 g4 g5
  have hc : CallOk Tryd.prog 3 (A3 (a0, a1, a2, a3, a4, a5)) [] 0 (.ret (.bool true)) _ _ := entry_call elAll_ok (g3_ok k) (show d3 (A3 (a0, a1, a2, a3, a4, a5)) [] = some (a0, a1, a2, a3, a4, a5) by kernel_rfl) hk
  have hv : VRels (fun _ => none) (ro0 W) W (A3 (a0, a1, a2, a3, a4, a5)) [_, _, _, _, _, _] := .cons e0 (.cons e1 (.cons e2 (.cons e3 (.cons e4 (.cons e5 (VRels.nil))))))
  refine (law_call hc hv (of_laid hL)).mono fun e W' he => ?_
  obtain ⟨rfl, bel⟩ := he
  exact ⟨_, rfl, _, _, _, [], _, [], hW', trodAll_mk1 (shut_bool Tryd.underlying4 _), (trodAll_cons_mk (Below.trod laidOut (by kernel_rfl) (of_decide_eq_true (by kernel_rfl)) k0 bel lt0) (trodAll_cons_mk (Below.trod laidOut (by kernel_rfl) (of_decide_eq_true (by kernel_rfl)) k1 bel lt1) (trodAll_cons_mk (Below.trod laidOut (by kernel_rfl) (of_decide_eq_true (by kernel_rfl)) k2 bel lt2) (trodAll_cons_mk (Below.trod laidOut (by kernel_rfl) (of_decide_eq_true (by kernel_rfl)) k3 bel lt3) (trodAll_cons_mk (Below.trod laidOut (by kernel_rfl) (of_decide_eq_true (by kernel_rfl)) k4 bel lt4) (trodAll_cons_mk (Below.trod laidOut (by kernel_rfl) (of_decide_eq_true (by kernel_rfl)) k5 bel lt5) trodAll_mk0)))))), rfl, bel.frame _, fun h => by cases h⟩
theorem over : Rows.tallyDoesRow.holds Tryd.pinned (OpenSpec.ofChange Rows.tallyDoesSpec) :=
  OpenClaim.holds_of_wide 3 Tryd.f3 rfl rfl rfl rfl rfl rfl rfl ⟨rfl, rfl, rfl, rfl, rfl⟩ rfl rfl rfl rfl rfl (by kernel_rfl) Tryd.func3 (by kernel_rfl)
    (of_decide_eq_true (by kernel_rfl)) (by unfold Func.isWrapper; first | (rw [if_pos (by decide +kernel)]; kernel_rfl) | (rw [if_neg (by decide +kernel)]; exact ⟨rfl, rfl⟩))
    (fun os started H enc _ => lifted os started H enc)
end Go.Proofs.YtdkfkacipbaenaaDoor.tallyDoes
namespace Go.Proofs.YtdkfkacipbaenaaDoor
theorem tallyDoes_holds : Rows.TallyDoesCardSaid :=
  Claim7.holds_tied_plain_at .later [] [.data, .data] true (true, "611c7619fb0c0fa0306279a71708d9d905a37401711727a85a432670b8132ec3") false
    tallyDoes.over (fun _ h => by cases h) (by kernel_rfl) (fun _ h => by cases h) tallyDoes_row_tie rfl ⟨rfl, rfl⟩ (by kernel_rfl) rfl
    (fun f fn hf hfn => by
      obtain rfl : f = 3 := Option.some.inj ((show Tryd.prog.funcNamed "watchman/watchmanlaw22.TallyDoes" = some 3 by kernel_rfl).symm.trans hf) |>.symm
      obtain rfl : fn = Tryd.f3 := (Option.some.inj (Tryd.func3.symm.trans hfn)).symm
      exact ⟨by kernel_rfl, fun j t ht => by
        rw [Tryd.params3] at ht
        have hm : t ∈ [3, 22, 3, 3, 22, 3] := by simpa using Array.mem_of_getElem? ht
        have hall : ([3, 22, 3, 3, 22, 3].all fun u => !Tryd.prog.wantsStandIn u) = true := by kernel_rfl
        exact (show Tryd.prog.wantsStandIn t = false by simpa using List.all_eq_true.1 hall t hm)⟩)
    (by kernel_rfl)
end Go.Proofs.YtdkfkacipbaenaaDoor

end
